import Derived.Test.YtndaljjljmmlcaaAbsI
import Derived.Test.YtndaljjljmmlcaaL16E
set_option linter.unusedSimpArgs false
set_option linter.unusedVariables false
namespace Go.Proofs.Ytndaljjljmmlcaa
open Go.Zz
set_option maxRecDepth 100000
/-- The reference's Same. -/
theorem f16 {a b : AV} {xs ys : List Int} (ha : IntS a xs) (hb : IntS b ys) (h1 : xs.length < 9223372036854775808) (h2 : ys.length < 9223372036854775808) : WF E14 (.func 16 [] []) [a, b] ⟨[], []⟩ fun y m' => y = .bool (decide (xs = ys)) := by
  have hla := ha.len
  have hlb := hb.len
  refine WF.fnE rfl (fn_of Try.func16 cir16) (by show 2 ≤ 26; decide) ?_
  unfold ir16
  simp only [padTo, List.replicate, List.nil_append, List.append_nil, List.cons_append]
  repeat' (first
    | (refine WO.yes rfl ?_)
    | (refine WO.noE rfl (by simp only [pt8, pt0, pt1, pt2, pt3, pt4, pt5, pt6, pt7]; rfl) ?_)
    | (refine WO.opE (by intro; simp (disch := omega) only [go_sem, Zz.look, Zz.over, Zz.cut, Nat.reduceAdd, Nat.reduceMul, Nat.reduceSub, Nat.reduceLeDiff, Nat.reduceEqDiff, Int.reduceNeg, Int.reduceAdd, Int.reduceToNat, reduceIte, reduceCtorEq, tab_k, tab_f, tab_b, Nat.mul_one, ia_sref, nilEqAV, lk0, lk1, lk2, lk3, st0, st1, st2, st3]; rfl) (by simp only [pt8, pt0, pt1, pt2, pt3, pt4, pt5, pt6, pt7]; rfl) ?_)
    | (refine WO.opN (by intro; simp (disch := omega) only [go_sem, Zz.look, Zz.over, Zz.cut, Nat.reduceAdd, Nat.reduceMul, Nat.reduceSub, Nat.reduceLeDiff, Nat.reduceEqDiff, Int.reduceNeg, Int.reduceAdd, Int.reduceToNat, reduceIte, reduceCtorEq, tab_k, tab_f, tab_b, Nat.mul_one, ia_sref, nilEqAV, lk0, lk1, lk2, lk3, st0, st1, st2, st3]; rfl) ?_)
    | (refine WO.opE (by intro; exact ev_lenS (by simp only [go_sem]; first | rfl | assumption)) (by simp only [pt8, pt0, pt1, pt2, pt3, pt4, pt5, pt6, pt7]; rfl) ?_)
    | (refine WO.opE (by intro; exact ev_lenS (by simp only [go_sem]; exact hla)) (by simp only [pt8, pt0, pt1, pt2, pt3, pt4, pt5, pt6, pt7]; rfl) ?_)
    | (refine WO.opE (by intro; exact ev_lenS (by simp only [go_sem]; exact hlb)) (by simp only [pt8, pt0, pt1, pt2, pt3, pt4, pt5, pt6, pt7]; rfl) ?_)
    | (refine WC.seq ?_)
    | (refine WC.region ?_)
    | (refine WO.nil ?_)
    | (simp only [fl1, fl2, fl3, fl4, fl5, fl6, fl7, fl8, fl9, fl10, Nat.reduceBEq])
    | (refine WC.calm rfl ?_)
    | (refine WC.drawT ?_)
    | (refine WT.nil ?_)
    | (refine WT.yes rfl ?_)
    | (refine WT.no rfl (by simp only [pt8, pt0, pt1, pt2, pt3, pt4, pt5, pt6, pt7]; rfl) ?_)
    | (refine WT.free rfl (by intro; simp (disch := omega) only [go_sem, Zz.look, Zz.over, Zz.cut, Nat.reduceAdd, Nat.reduceMul, Nat.reduceSub, Nat.reduceLeDiff, Nat.reduceEqDiff, Int.reduceNeg, Int.reduceAdd, Int.reduceToNat, reduceIte, reduceCtorEq, tab_k, tab_f, tab_b, Nat.mul_one, ia_sref, nilEqAV, lk0, lk1, lk2, lk3, st0, st1, st2, st3]; rfl) rfl (by simp only [pt8, pt0, pt1, pt2, pt3, pt4, pt5, pt6, pt7]; rfl) ?_)
    | (refine WT.big rfl rfl (by intro; simp (disch := omega) only [go_sem, Zz.look, Zz.over, Zz.cut, Nat.reduceAdd, Nat.reduceMul, Nat.reduceSub, Nat.reduceLeDiff, Nat.reduceEqDiff, Int.reduceNeg, Int.reduceAdd, Int.reduceToNat, reduceIte, reduceCtorEq, tab_k, tab_f, tab_b, Nat.mul_one, ia_sref, nilEqAV, lk0, lk1, lk2, lk3, st0, st1, st2, st3]; rfl) (by simp (disch := omega) only [go_sem, Zz.look, Zz.over, Zz.cut, Nat.reduceAdd, Nat.reduceMul, Nat.reduceSub, Nat.reduceLeDiff, Nat.reduceEqDiff, Int.reduceNeg, Int.reduceAdd, Int.reduceToNat, reduceIte, reduceCtorEq, tab_k, tab_f, tab_b, Nat.mul_one, ia_sref, nilEqAV, lk0, lk1, lk2, lk3, st0, st1, st2, st3, touch]; rfl) (by first | exact .inl rfl | exact .inr (apart_nil _) | (right; apply apart_mk; simp only [apartL, List.nil_append, List.cons_append, List.getElem?_cons_succ, List.getElem?_cons_zero, Tch.free, and_true, true_and]; first | done | omega)) (by simp only [pt8, pt0, pt1, pt2, pt3, pt4, pt5, pt6, pt7]; rfl) ?_)
    | (refine WT.bigN rfl rfl (by intro; simp (disch := omega) only [go_sem, Zz.look, Zz.over, Zz.cut, Nat.reduceAdd, Nat.reduceMul, Nat.reduceSub, Nat.reduceLeDiff, Nat.reduceEqDiff, Int.reduceNeg, Int.reduceAdd, Int.reduceToNat, reduceIte, reduceCtorEq, tab_k, tab_f, tab_b, Nat.mul_one, ia_sref, nilEqAV, lk0, lk1, lk2, lk3, st0, st1, st2, st3]; rfl) (by simp (disch := omega) only [go_sem, Zz.look, Zz.over, Zz.cut, Nat.reduceAdd, Nat.reduceMul, Nat.reduceSub, Nat.reduceLeDiff, Nat.reduceEqDiff, Int.reduceNeg, Int.reduceAdd, Int.reduceToNat, reduceIte, reduceCtorEq, tab_k, tab_f, tab_b, Nat.mul_one, ia_sref, nilEqAV, lk0, lk1, lk2, lk3, st0, st1, st2, st3, touch]; rfl) (by first | exact .inl rfl | exact .inr (apart_nil _) | (right; apply apart_mk; simp only [apartL, List.nil_append, List.cons_append, List.getElem?_cons_succ, List.getElem?_cons_zero, Tch.free, and_true, true_and]; first | done | omega)) ?_)
    | (refine WC.yes rfl ?_)
    | (refine WC.no rfl ?_)
    | (refine WC.skip ?_)
    | (refine WC.exit ?_)
    | (refine WC.ret ?_)
    | (refine WC.block ?_)
    | (refine WT.em2 rfl (by intro hp; simp only [hp, decide_true]; rfl) (by intro hp; simp only [hp, decide_false]; rfl) (fun hp => ?_) (fun hp => ?_) <;> try (exfalso; first | omega | contradiction))
    | (refine WO.em2 rfl (by intro hp; simp only [hp, decide_true]; rfl) (by intro hp; simp only [hp, decide_false]; rfl) (fun hp => ?_) (fun hp => ?_) <;> try (exfalso; first | omega | contradiction))
    | (refine WC.em2 rfl (fun hp => ?_) (fun hp => ?_) <;> try (exfalso; first | omega | contradiction)))
  · exact ⟨_, rfl, by simp only [oneRes, gt8, gt0, gt4, AV.bool.injEq]; symm; rw [decide_eq_false_iff_not]; rintro rfl; exact hp rfl⟩
  refine WC.loopI (fun m s => ∃ T H i, s = ⟨T, H, []⟩ ∧ T.length = 26 ∧ gt T 0 = a ∧ gt T 1 = b ∧ gt T 5 = .int .i64 (i : Nat) ∧ m + i = xs.length ∧ ∀ j, j < i → xs.getD j 0 = ys.getD j 0) ?_ xs.length _ ⟨_, _, 0, rfl, rfl, rfl, rfl, rfl, by omega, fun j hj => by omega⟩
  rintro m _ ⟨T, H, i, rfl, hT, g0, g1, g5, hm, ih⟩
  obtain ⟨f, rfl⟩ := ex26 hT
  clear hT
  replace g0 : f 0 = a := g0
  replace g1 : f 1 = b := g1
  replace g5 : f 5 = .int .i64 (i : Nat) := g5
  simp only [g0, g1, g5]
  repeat' (first
    | (refine WO.yes rfl ?_)
    | (refine WO.noE rfl (by simp only [pt8, pt0, pt1, pt2, pt3, pt4, pt5, pt6, pt7]; rfl) ?_)
    | (refine WO.opE (by intro; simp (disch := omega) only [go_sem, zeros, Zz.cut, List.append_assoc, List.length_append, Nat.reduceAdd, Nat.reduceMul, Nat.reduceSub, Nat.reduceLeDiff, Nat.reduceEqDiff, Int.reduceNeg, Int.reduceAdd, Int.reduceToNat, reduceIte, reduceCtorEq, tab_k, tab_f, tab_b, Nat.mul_one, ia_sref, nilEqAV, lk0, lk1, lk2, lk3, st0, st1, st2, st3, ha.atI, hb.atI]; rfl) (by simp only [pt8, pt0, pt1, pt2, pt3, pt4, pt5, pt6, pt7]; rfl) ?_)
    | (refine WO.opN (by intro; simp (disch := omega) only [go_sem, zeros, Zz.cut, List.append_assoc, List.length_append, Nat.reduceAdd, Nat.reduceMul, Nat.reduceSub, Nat.reduceLeDiff, Nat.reduceEqDiff, Int.reduceNeg, Int.reduceAdd, Int.reduceToNat, reduceIte, reduceCtorEq, tab_k, tab_f, tab_b, Nat.mul_one, ia_sref, nilEqAV, lk0, lk1, lk2, lk3, st0, st1, st2, st3, ha.atI, hb.atI]; rfl) ?_)
    | (refine WO.opE (by intro; exact ev_lenS (by simp only [go_sem]; first | rfl | assumption)) (by simp only [pt8, pt0, pt1, pt2, pt3, pt4, pt5, pt6, pt7]; rfl) ?_)
    | (refine WO.opE (by intro; exact ev_lenS (by simp only [go_sem]; exact hla)) (by simp only [pt8, pt0, pt1, pt2, pt3, pt4, pt5, pt6, pt7]; rfl) ?_)
    | (refine WO.opE (by intro; exact ev_lenS (by simp only [go_sem]; exact hlb)) (by simp only [pt8, pt0, pt1, pt2, pt3, pt4, pt5, pt6, pt7]; rfl) ?_)
    | (refine WC.seq ?_)
    | (refine WC.region ?_)
    | (refine WO.nil ?_)
    | (simp only [fl1, fl2, fl3, fl4, fl5, fl6, fl7, fl8, fl9, fl10, Nat.reduceBEq])
    | (refine WC.calm rfl ?_)
    | (refine WC.drawT ?_)
    | (refine WT.nil ?_)
    | (refine WT.yes rfl ?_)
    | (refine WT.no rfl (by simp only [pt8, pt0, pt1, pt2, pt3, pt4, pt5, pt6, pt7]; rfl) ?_)
    | (refine WT.free rfl (by intro; simp (disch := omega) only [go_sem, zeros, Zz.cut, List.append_assoc, List.length_append, Nat.reduceAdd, Nat.reduceMul, Nat.reduceSub, Nat.reduceLeDiff, Nat.reduceEqDiff, Int.reduceNeg, Int.reduceAdd, Int.reduceToNat, reduceIte, reduceCtorEq, tab_k, tab_f, tab_b, Nat.mul_one, ia_sref, nilEqAV, lk0, lk1, lk2, lk3, st0, st1, st2, st3, ha.atI, hb.atI]; rfl) rfl (by simp only [pt8, pt0, pt1, pt2, pt3, pt4, pt5, pt6, pt7]; rfl) ?_)
    | (refine WT.big rfl rfl (by intro; simp (disch := omega) only [go_sem, zeros, Zz.cut, List.append_assoc, List.length_append, Nat.reduceAdd, Nat.reduceMul, Nat.reduceSub, Nat.reduceLeDiff, Nat.reduceEqDiff, Int.reduceNeg, Int.reduceAdd, Int.reduceToNat, reduceIte, reduceCtorEq, tab_k, tab_f, tab_b, Nat.mul_one, ia_sref, nilEqAV, lk0, lk1, lk2, lk3, st0, st1, st2, st3, ha.atI, hb.atI]; rfl) (by simp (disch := omega) only [go_sem, zeros, Zz.cut, List.append_assoc, List.length_append, Nat.reduceAdd, Nat.reduceMul, Nat.reduceSub, Nat.reduceLeDiff, Nat.reduceEqDiff, Int.reduceNeg, Int.reduceAdd, Int.reduceToNat, reduceIte, reduceCtorEq, tab_k, tab_f, tab_b, Nat.mul_one, ia_sref, nilEqAV, lk0, lk1, lk2, lk3, st0, st1, st2, st3, ha.atI, hb.atI, touch]; rfl) (by first | exact .inl rfl | exact .inr (apart_nil _) | (right; apply apart_mk; simp only [apartL, List.nil_append, List.cons_append, List.getElem?_cons_succ, List.getElem?_cons_zero, Tch.free, and_true, true_and]; first | done | omega)) (by simp only [pt8, pt0, pt1, pt2, pt3, pt4, pt5, pt6, pt7]; rfl) ?_)
    | (refine WT.bigN rfl rfl (by intro; simp (disch := omega) only [go_sem, zeros, Zz.cut, List.append_assoc, List.length_append, Nat.reduceAdd, Nat.reduceMul, Nat.reduceSub, Nat.reduceLeDiff, Nat.reduceEqDiff, Int.reduceNeg, Int.reduceAdd, Int.reduceToNat, reduceIte, reduceCtorEq, tab_k, tab_f, tab_b, Nat.mul_one, ia_sref, nilEqAV, lk0, lk1, lk2, lk3, st0, st1, st2, st3, ha.atI, hb.atI]; rfl) (by simp (disch := omega) only [go_sem, zeros, Zz.cut, List.append_assoc, List.length_append, Nat.reduceAdd, Nat.reduceMul, Nat.reduceSub, Nat.reduceLeDiff, Nat.reduceEqDiff, Int.reduceNeg, Int.reduceAdd, Int.reduceToNat, reduceIte, reduceCtorEq, tab_k, tab_f, tab_b, Nat.mul_one, ia_sref, nilEqAV, lk0, lk1, lk2, lk3, st0, st1, st2, st3, ha.atI, hb.atI, touch]; rfl) (by first | exact .inl rfl | exact .inr (apart_nil _) | (right; apply apart_mk; simp only [apartL, List.nil_append, List.cons_append, List.getElem?_cons_succ, List.getElem?_cons_zero, Tch.free, and_true, true_and]; first | done | omega)) ?_)
    | (refine WC.yes rfl ?_)
    | (refine WC.no rfl ?_)
    | (refine WC.skip ?_)
    | (refine WC.exit ?_)
    | (refine WC.ret ?_)
    | (refine WC.block ?_)
    | (refine WT.em2 rfl (by intro hp; simp only [hp, decide_true]; rfl) (by intro hp; simp only [hp, decide_false]; rfl) (fun hp => ?_) (fun hp => ?_) <;> try (exfalso; first | omega | contradiction))
    | (refine WO.em2 rfl (by intro hp; simp only [hp, decide_true]; rfl) (by intro hp; simp only [hp, decide_false]; rfl) (fun hp => ?_) (fun hp => ?_) <;> try (exfalso; first | omega | contradiction))
    | (refine WC.em2 rfl (fun hp => ?_) (fun hp => ?_) <;> try (exfalso; first | omega | contradiction)))
  · refine ⟨_, rfl, ?_⟩
    simp only [oneRes, gt8, gt0, gt4, AV.bool.injEq]
    symm; rw [decide_eq_false_iff_not]; rintro rfl; exact hp rfl
  · exact ⟨m - 1, by omega, _, _, i + 1, rfl, rfl, rfl, rfl, rfl, by omega, fun j hj => by
      by_cases e : j = i
      · subst e; exact Decidable.of_not_not hp
      · exact ih j (by omega)⟩
  · refine ⟨_, rfl, ?_⟩
    simp only [oneRes, gt8, gt0, gt4, AV.bool.injEq]
    symm; rw [decide_eq_true_iff]
    apply List.ext_getElem (by omega)
    intro j h1 h2
    have := ih j (by omega)
    simpa [List.getD_eq_getElem?_getD, h1, h2] using this
theorem s16 {a b : AV} {xs ys : List Int} (ha : IntS a xs) (hb : IntS b ys) (h1 : xs.length < 9223372036854775808) (h2 : ys.length < 9223372036854775808) {a' b' : AV} {m : Mem} (e1 : byVal m.heap a' = some a) (e2 : byVal m.heap b' = some b) : borrowX E14 16 [a', b'] m = some (.bool (decide (xs = ys)), m) :=
  borrowX_of (byVals_cons e1 (byVals_cons e2 rfl)) ((f16 ha hb h1 h2).mono fun y m' h => by rw [h]; rfl)

noncomputable def E15 : Env := E14.put 16 (borrowX E14 16)
theorem E15_ok : EnvOk Try.prog E15 := Env.put_ok E14_ok (borrowX_ok E14_ok (callable Try.func16 (by kernel_rfl)))

/-- Sizes that agree, as the laws ask. -/
def Agree (n : Int) (rs : List Rg) (xs : List Int) : Prop := (xs.length : Int) = n ∧ (∀ i, i < xs.length → -1000000000000000 ≤ xs.getD i 0 ∧ xs.getD i 0 ≤ 1000000000000000) ∧
  ∀ k, k < rs.length → (nth rs k).lo ≤ xs.getD (nth rs k).b.toNat 0 - xs.getD (nth rs k).a.toNat 0 ∧ xs.getD (nth rs k).b.toNat 0 - xs.getD (nth rs k).a.toNat 0 ≤ (nth rs k).hi

theorem f21 {n : Int} {rs : List Rg} (hv : VL n rs) {l : AV} (hl : RdL l rs) {x : AV} {xs : List Int} (hx : IntS x xs) (hxm : xs.length < 9223372036854775808) : WF E15 (.func 21 [] []) [.int .i64 n, l, x] ⟨[], []⟩ fun y m' => ∃ b : Bool, (b = true ↔ Agree n rs xs) ∧ y = .bool b := by
  have hlen := hl.len
  have hxl := hx.len
  have hn2 := hv.2.1
  have hl2 := hv.2.2.1
  refine WF.fnE rfl (fn_of Try.func21 cir21) (by show 3 ≤ 70; decide) ?_
  unfold ir21
  simp only [padTo, List.replicate, List.nil_append, List.append_nil, List.cons_append]
  repeat' (first
    | (refine WO.yes rfl ?_)
    | (refine WO.noE rfl (by simp only [pt8, pt0, pt1, pt2, pt3, pt4, pt5, pt6, pt7]; rfl) ?_)
    | (refine WO.opE (by intro; simp (disch := omega) only [go_sem, Zz.look, Zz.over, Zz.cut, Nat.reduceAdd, Nat.reduceMul, Nat.reduceSub, Nat.reduceLeDiff, Nat.reduceEqDiff, Int.reduceNeg, Int.reduceAdd, Int.reduceToNat, reduceIte, reduceCtorEq, tab_k, tab_f, tab_b, Nat.mul_one, ia_sref, nilEqAV, lk0, lk1, lk2, lk3, st0, st1, st2, st3]; rfl) (by simp only [pt8, pt0, pt1, pt2, pt3, pt4, pt5, pt6, pt7]; rfl) ?_)
    | (refine WO.opN (by intro; simp (disch := omega) only [go_sem, Zz.look, Zz.over, Zz.cut, Nat.reduceAdd, Nat.reduceMul, Nat.reduceSub, Nat.reduceLeDiff, Nat.reduceEqDiff, Int.reduceNeg, Int.reduceAdd, Int.reduceToNat, reduceIte, reduceCtorEq, tab_k, tab_f, tab_b, Nat.mul_one, ia_sref, nilEqAV, lk0, lk1, lk2, lk3, st0, st1, st2, st3]; rfl) ?_)
    | (refine WO.opE (by intro; exact ev_lenS (by simp only [go_sem]; first | rfl | assumption)) (by simp only [pt8, pt0, pt1, pt2, pt3, pt4, pt5, pt6, pt7]; rfl) ?_)
    | (refine WO.opE (by intro; exact ev_lenS (by simp only [go_sem]; exact hlen)) (by simp only [pt8, pt0, pt1, pt2, pt3, pt4, pt5, pt6, pt7]; rfl) ?_)
    | (refine WO.opE (by intro; exact ev_lenS (by simp only [go_sem]; exact hxl)) (by simp only [pt8, pt0, pt1, pt2, pt3, pt4, pt5, pt6, pt7]; rfl) ?_)
    | (refine WC.seq ?_)
    | (refine WC.region ?_)
    | (refine WO.nil ?_)
    | (simp only [fl1, fl2, fl3, fl4, fl5, fl6, fl7, fl8, fl9, fl10, Nat.reduceBEq])
    | (refine WC.calm rfl ?_)
    | (refine WC.drawT ?_)
    | (refine WT.nil ?_)
    | (refine WT.yes rfl ?_)
    | (refine WT.no rfl (by simp only [pt8, pt0, pt1, pt2, pt3, pt4, pt5, pt6, pt7]; rfl) ?_)
    | (refine WT.free rfl (by intro; simp (disch := omega) only [go_sem, Zz.look, Zz.over, Zz.cut, Nat.reduceAdd, Nat.reduceMul, Nat.reduceSub, Nat.reduceLeDiff, Nat.reduceEqDiff, Int.reduceNeg, Int.reduceAdd, Int.reduceToNat, reduceIte, reduceCtorEq, tab_k, tab_f, tab_b, Nat.mul_one, ia_sref, nilEqAV, lk0, lk1, lk2, lk3, st0, st1, st2, st3]; rfl) rfl (by simp only [pt8, pt0, pt1, pt2, pt3, pt4, pt5, pt6, pt7]; rfl) ?_)
    | (refine WT.big rfl rfl (by intro; simp (disch := omega) only [go_sem, Zz.look, Zz.over, Zz.cut, Nat.reduceAdd, Nat.reduceMul, Nat.reduceSub, Nat.reduceLeDiff, Nat.reduceEqDiff, Int.reduceNeg, Int.reduceAdd, Int.reduceToNat, reduceIte, reduceCtorEq, tab_k, tab_f, tab_b, Nat.mul_one, ia_sref, nilEqAV, lk0, lk1, lk2, lk3, st0, st1, st2, st3]; rfl) (by simp (disch := omega) only [go_sem, Zz.look, Zz.over, Zz.cut, Nat.reduceAdd, Nat.reduceMul, Nat.reduceSub, Nat.reduceLeDiff, Nat.reduceEqDiff, Int.reduceNeg, Int.reduceAdd, Int.reduceToNat, reduceIte, reduceCtorEq, tab_k, tab_f, tab_b, Nat.mul_one, ia_sref, nilEqAV, lk0, lk1, lk2, lk3, st0, st1, st2, st3, touch]; rfl) (by first | exact .inl rfl | exact .inr (apart_nil _) | (right; apply apart_mk; simp only [apartL, List.nil_append, List.cons_append, List.getElem?_cons_succ, List.getElem?_cons_zero, Tch.free, and_true, true_and]; first | done | omega)) (by simp only [pt8, pt0, pt1, pt2, pt3, pt4, pt5, pt6, pt7]; rfl) ?_)
    | (refine WT.bigN rfl rfl (by intro; simp (disch := omega) only [go_sem, Zz.look, Zz.over, Zz.cut, Nat.reduceAdd, Nat.reduceMul, Nat.reduceSub, Nat.reduceLeDiff, Nat.reduceEqDiff, Int.reduceNeg, Int.reduceAdd, Int.reduceToNat, reduceIte, reduceCtorEq, tab_k, tab_f, tab_b, Nat.mul_one, ia_sref, nilEqAV, lk0, lk1, lk2, lk3, st0, st1, st2, st3]; rfl) (by simp (disch := omega) only [go_sem, Zz.look, Zz.over, Zz.cut, Nat.reduceAdd, Nat.reduceMul, Nat.reduceSub, Nat.reduceLeDiff, Nat.reduceEqDiff, Int.reduceNeg, Int.reduceAdd, Int.reduceToNat, reduceIte, reduceCtorEq, tab_k, tab_f, tab_b, Nat.mul_one, ia_sref, nilEqAV, lk0, lk1, lk2, lk3, st0, st1, st2, st3, touch]; rfl) (by first | exact .inl rfl | exact .inr (apart_nil _) | (right; apply apart_mk; simp only [apartL, List.nil_append, List.cons_append, List.getElem?_cons_succ, List.getElem?_cons_zero, Tch.free, and_true, true_and]; first | done | omega)) ?_)
    | (refine WC.yes rfl ?_)
    | (refine WC.no rfl ?_)
    | (refine WC.skip ?_)
    | (refine WC.exit ?_)
    | (refine WC.ret ?_)
    | (refine WC.block ?_)
    | (refine WT.em2 rfl (by intro hp; simp only [hp, decide_true]; rfl) (by intro hp; simp only [hp, decide_false]; rfl) (fun hp => ?_) (fun hp => ?_) <;> try (exfalso; first | omega | contradiction))
    | (refine WO.em2 rfl (by intro hp; simp only [hp, decide_true]; rfl) (by intro hp; simp only [hp, decide_false]; rfl) (fun hp => ?_) (fun hp => ?_) <;> try (exfalso; first | omega | contradiction))
    | (refine WC.em2 rfl (fun hp => ?_) (fun hp => ?_) <;> try (exfalso; first | omega | contradiction)))
  · exact ⟨_, rfl, false, ⟨fun h => (by cases h), fun h => absurd h.1 hp⟩, rfl⟩
  refine WC.loopI (fun m s => ∃ T H i, s = ⟨T, H, []⟩ ∧ T.length = 70 ∧ gt T 0 = .int .i64 n ∧ gt T 1 = l ∧ gt T 2 = x ∧ gt T 7 = .int .i64 (i : Nat) ∧ m + i = xs.length ∧ ∀ j, j < i → -1000000000000000 ≤ xs.getD j 0 ∧ xs.getD j 0 ≤ 1000000000000000) ?_ xs.length _ ⟨_, _, 0, rfl, rfl, rfl, rfl, rfl, rfl, by omega, fun j hj => by omega⟩
  rintro m _ ⟨T, H, i, rfl, hT, g0, g1, g2, g7, hm, ih⟩
  obtain ⟨f, rfl⟩ := ex70 hT
  clear hT
  replace g0 : f 0 = .int .i64 n := g0
  replace g1 : f 1 = l := g1
  replace g2 : f 2 = x := g2
  replace g7 : f 7 = .int .i64 (i : Nat) := g7
  simp only [g0, g1, g2, g7]
  repeat' (first
    | (refine WO.yes rfl ?_)
    | (refine WO.noE rfl (by simp only [pt8, pt0, pt1, pt2, pt3, pt4, pt5, pt6, pt7]; rfl) ?_)
    | (refine WO.opE (by intro; simp (disch := omega) only [go_sem, zeros, Zz.cut, List.append_assoc, List.length_append, Nat.reduceAdd, Nat.reduceMul, Nat.reduceSub, Nat.reduceLeDiff, Nat.reduceEqDiff, Int.reduceNeg, Int.reduceAdd, Int.reduceToNat, reduceIte, reduceCtorEq, tab_k, tab_f, tab_b, Nat.mul_one, ia_sref, nilEqAV, lk0, lk1, lk2, lk3, st0, st1, st2, st3, hx.atI]; rfl) (by simp only [pt8, pt0, pt1, pt2, pt3, pt4, pt5, pt6, pt7]; rfl) ?_)
    | (refine WO.opN (by intro; simp (disch := omega) only [go_sem, zeros, Zz.cut, List.append_assoc, List.length_append, Nat.reduceAdd, Nat.reduceMul, Nat.reduceSub, Nat.reduceLeDiff, Nat.reduceEqDiff, Int.reduceNeg, Int.reduceAdd, Int.reduceToNat, reduceIte, reduceCtorEq, tab_k, tab_f, tab_b, Nat.mul_one, ia_sref, nilEqAV, lk0, lk1, lk2, lk3, st0, st1, st2, st3, hx.atI]; rfl) ?_)
    | (refine WO.opE (by intro; exact ev_lenS (by simp only [go_sem]; first | rfl | assumption)) (by simp only [pt8, pt0, pt1, pt2, pt3, pt4, pt5, pt6, pt7]; rfl) ?_)
    | (refine WO.opE (by intro; exact ev_lenS (by simp only [go_sem]; exact hlen)) (by simp only [pt8, pt0, pt1, pt2, pt3, pt4, pt5, pt6, pt7]; rfl) ?_)
    | (refine WO.opE (by intro; exact ev_lenS (by simp only [go_sem]; exact hxl)) (by simp only [pt8, pt0, pt1, pt2, pt3, pt4, pt5, pt6, pt7]; rfl) ?_)
    | (refine WC.seq ?_)
    | (refine WC.region ?_)
    | (refine WO.nil ?_)
    | (simp only [fl1, fl2, fl3, fl4, fl5, fl6, fl7, fl8, fl9, fl10, Nat.reduceBEq])
    | (refine WC.calm rfl ?_)
    | (refine WC.drawT ?_)
    | (refine WT.nil ?_)
    | (refine WT.yes rfl ?_)
    | (refine WT.no rfl (by simp only [pt8, pt0, pt1, pt2, pt3, pt4, pt5, pt6, pt7]; rfl) ?_)
    | (refine WT.free rfl (by intro; simp (disch := omega) only [go_sem, zeros, Zz.cut, List.append_assoc, List.length_append, Nat.reduceAdd, Nat.reduceMul, Nat.reduceSub, Nat.reduceLeDiff, Nat.reduceEqDiff, Int.reduceNeg, Int.reduceAdd, Int.reduceToNat, reduceIte, reduceCtorEq, tab_k, tab_f, tab_b, Nat.mul_one, ia_sref, nilEqAV, lk0, lk1, lk2, lk3, st0, st1, st2, st3, hx.atI]; rfl) rfl (by simp only [pt8, pt0, pt1, pt2, pt3, pt4, pt5, pt6, pt7]; rfl) ?_)
    | (refine WT.big rfl rfl (by intro; simp (disch := omega) only [go_sem, zeros, Zz.cut, List.append_assoc, List.length_append, Nat.reduceAdd, Nat.reduceMul, Nat.reduceSub, Nat.reduceLeDiff, Nat.reduceEqDiff, Int.reduceNeg, Int.reduceAdd, Int.reduceToNat, reduceIte, reduceCtorEq, tab_k, tab_f, tab_b, Nat.mul_one, ia_sref, nilEqAV, lk0, lk1, lk2, lk3, st0, st1, st2, st3, hx.atI]; rfl) (by simp (disch := omega) only [go_sem, zeros, Zz.cut, List.append_assoc, List.length_append, Nat.reduceAdd, Nat.reduceMul, Nat.reduceSub, Nat.reduceLeDiff, Nat.reduceEqDiff, Int.reduceNeg, Int.reduceAdd, Int.reduceToNat, reduceIte, reduceCtorEq, tab_k, tab_f, tab_b, Nat.mul_one, ia_sref, nilEqAV, lk0, lk1, lk2, lk3, st0, st1, st2, st3, hx.atI, touch]; rfl) (by first | exact .inl rfl | exact .inr (apart_nil _) | (right; apply apart_mk; simp only [apartL, List.nil_append, List.cons_append, List.getElem?_cons_succ, List.getElem?_cons_zero, Tch.free, and_true, true_and]; first | done | omega)) (by simp only [pt8, pt0, pt1, pt2, pt3, pt4, pt5, pt6, pt7]; rfl) ?_)
    | (refine WT.bigN rfl rfl (by intro; simp (disch := omega) only [go_sem, zeros, Zz.cut, List.append_assoc, List.length_append, Nat.reduceAdd, Nat.reduceMul, Nat.reduceSub, Nat.reduceLeDiff, Nat.reduceEqDiff, Int.reduceNeg, Int.reduceAdd, Int.reduceToNat, reduceIte, reduceCtorEq, tab_k, tab_f, tab_b, Nat.mul_one, ia_sref, nilEqAV, lk0, lk1, lk2, lk3, st0, st1, st2, st3, hx.atI]; rfl) (by simp (disch := omega) only [go_sem, zeros, Zz.cut, List.append_assoc, List.length_append, Nat.reduceAdd, Nat.reduceMul, Nat.reduceSub, Nat.reduceLeDiff, Nat.reduceEqDiff, Int.reduceNeg, Int.reduceAdd, Int.reduceToNat, reduceIte, reduceCtorEq, tab_k, tab_f, tab_b, Nat.mul_one, ia_sref, nilEqAV, lk0, lk1, lk2, lk3, st0, st1, st2, st3, hx.atI, touch]; rfl) (by first | exact .inl rfl | exact .inr (apart_nil _) | (right; apply apart_mk; simp only [apartL, List.nil_append, List.cons_append, List.getElem?_cons_succ, List.getElem?_cons_zero, Tch.free, and_true, true_and]; first | done | omega)) ?_)
    | (refine WC.yes rfl ?_)
    | (refine WC.no rfl ?_)
    | (refine WC.skip ?_)
    | (refine WC.exit ?_)
    | (refine WC.ret ?_)
    | (refine WC.block ?_)
    | (refine WT.em2 rfl (by intro hp; simp only [hp, decide_true]; rfl) (by intro hp; simp only [hp, decide_false]; rfl) (fun hp => ?_) (fun hp => ?_) <;> try (exfalso; first | omega | contradiction))
    | (refine WO.em2 rfl (by intro hp; simp only [hp, decide_true]; rfl) (by intro hp; simp only [hp, decide_false]; rfl) (fun hp => ?_) (fun hp => ?_) <;> try (exfalso; first | omega | contradiction))
    | (refine WC.em2 rfl (fun hp => ?_) (fun hp => ?_) <;> try (exfalso; first | omega | contradiction)))
  · exact ⟨_, rfl, false, ⟨fun h => (by cases h), fun h => absurd (h.2.1 i (by omega)) (by omega)⟩, rfl⟩
  · exact ⟨_, rfl, false, ⟨fun h => (by cases h), fun h => absurd (h.2.1 i (by omega)) (by omega)⟩, rfl⟩
  · exact ⟨m - 1, by omega, _, _, i + 1, rfl, rfl, rfl, rfl, rfl, rfl, by omega, fun j hj => by
      by_cases e : j = i
      · subst e; omega
      · exact ih j (by omega)⟩
  have hin : i = xs.length := by omega
  subst hin
  refine WC.loopI (fun m s => ∃ T H k, s = ⟨T, H, []⟩ ∧ T.length = 70 ∧ gt T 0 = .int .i64 n ∧ gt T 1 = l ∧ gt T 2 = x ∧ gt T 8 = .int .i64 (k : Nat) ∧ m + k = rs.length ∧ ∀ j, j < k → (nth rs j).lo ≤ xs.getD (nth rs j).b.toNat 0 - xs.getD (nth rs j).a.toNat 0 ∧ xs.getD (nth rs j).b.toNat 0 - xs.getD (nth rs j).a.toNat 0 ≤ (nth rs j).hi) ?_ rs.length _ ⟨_, _, 0, rfl, rfl, rfl, rfl, rfl, rfl, by omega, fun j hj => by omega⟩
  clear g0 g1 g2 g7 f hm m
  rintro m _ ⟨T, H, k, rfl, hT, g0, g1, g2, g8, hm, ih2⟩
  obtain ⟨f, rfl⟩ := ex70 hT
  clear hT
  replace g0 : f 0 = .int .i64 n := g0
  replace g1 : f 1 = l := g1
  replace g2 : f 2 = x := g2
  replace g8 : f 8 = .int .i64 (k : Nat) := g8
  simp only [g0, g1, g2, g8]
  by_cases hk : k < rs.length
  · obtain ⟨o1, o2, o3, o4, o5, o6, o7, o8⟩ := hv.at hk
    have ba := ih (nth rs k).a.toNat (by omega)
    have bb := ih (nth rs k).b.toNat (by omega)
    repeat' (first
      | (refine WO.yes rfl ?_)
      | (refine WO.noE rfl (by simp only [pt8, pt0, pt1, pt2, pt3, pt4, pt5, pt6, pt7]; rfl) ?_)
      | (refine WO.opE (by intro; simp (disch := omega) only [go_sem, zeros, Zz.cut, List.append_assoc, List.length_append, Nat.reduceAdd, Nat.reduceMul, Nat.reduceSub, Nat.reduceLeDiff, Nat.reduceEqDiff, Int.reduceNeg, Int.reduceAdd, Int.reduceToNat, reduceIte, reduceCtorEq, tab_k, tab_f, tab_b, Nat.mul_one, ia_sref, nilEqAV, lk0, lk1, lk2, lk3, st0, st1, st2, st3, hx.atI, hl.at]; rfl) (by simp only [pt8, pt0, pt1, pt2, pt3, pt4, pt5, pt6, pt7]; rfl) ?_)
      | (refine WO.opN (by intro; simp (disch := omega) only [go_sem, zeros, Zz.cut, List.append_assoc, List.length_append, Nat.reduceAdd, Nat.reduceMul, Nat.reduceSub, Nat.reduceLeDiff, Nat.reduceEqDiff, Int.reduceNeg, Int.reduceAdd, Int.reduceToNat, reduceIte, reduceCtorEq, tab_k, tab_f, tab_b, Nat.mul_one, ia_sref, nilEqAV, lk0, lk1, lk2, lk3, st0, st1, st2, st3, hx.atI, hl.at]; rfl) ?_)
      | (refine WO.opE (by intro; exact ev_lenS (by simp only [go_sem]; first | rfl | assumption)) (by simp only [pt8, pt0, pt1, pt2, pt3, pt4, pt5, pt6, pt7]; rfl) ?_)
      | (refine WO.opE (by intro; exact ev_lenS (by simp only [go_sem]; exact hlen)) (by simp only [pt8, pt0, pt1, pt2, pt3, pt4, pt5, pt6, pt7]; rfl) ?_)
      | (refine WO.opE (by intro; exact ev_lenS (by simp only [go_sem]; exact hxl)) (by simp only [pt8, pt0, pt1, pt2, pt3, pt4, pt5, pt6, pt7]; rfl) ?_)
      | (refine WC.seq ?_)
      | (refine WC.region ?_)
      | (refine WO.nil ?_)
      | (simp only [fl1, fl2, fl3, fl4, fl5, fl6, fl7, fl8, fl9, fl10, Nat.reduceBEq])
      | (refine WC.calm rfl ?_)
      | (refine WC.drawT ?_)
      | (refine WT.nil ?_)
      | (refine WT.yes rfl ?_)
      | (refine WT.no rfl (by simp only [pt8, pt0, pt1, pt2, pt3, pt4, pt5, pt6, pt7]; rfl) ?_)
      | (refine WT.free rfl (by intro; simp (disch := omega) only [go_sem, zeros, Zz.cut, List.append_assoc, List.length_append, Nat.reduceAdd, Nat.reduceMul, Nat.reduceSub, Nat.reduceLeDiff, Nat.reduceEqDiff, Int.reduceNeg, Int.reduceAdd, Int.reduceToNat, reduceIte, reduceCtorEq, tab_k, tab_f, tab_b, Nat.mul_one, ia_sref, nilEqAV, lk0, lk1, lk2, lk3, st0, st1, st2, st3, hx.atI, hl.at]; rfl) rfl (by simp only [pt8, pt0, pt1, pt2, pt3, pt4, pt5, pt6, pt7]; rfl) ?_)
      | (refine WT.big rfl rfl (by intro; simp (disch := omega) only [go_sem, zeros, Zz.cut, List.append_assoc, List.length_append, Nat.reduceAdd, Nat.reduceMul, Nat.reduceSub, Nat.reduceLeDiff, Nat.reduceEqDiff, Int.reduceNeg, Int.reduceAdd, Int.reduceToNat, reduceIte, reduceCtorEq, tab_k, tab_f, tab_b, Nat.mul_one, ia_sref, nilEqAV, lk0, lk1, lk2, lk3, st0, st1, st2, st3, hx.atI, hl.at]; rfl) (by simp (disch := omega) only [go_sem, zeros, Zz.cut, List.append_assoc, List.length_append, Nat.reduceAdd, Nat.reduceMul, Nat.reduceSub, Nat.reduceLeDiff, Nat.reduceEqDiff, Int.reduceNeg, Int.reduceAdd, Int.reduceToNat, reduceIte, reduceCtorEq, tab_k, tab_f, tab_b, Nat.mul_one, ia_sref, nilEqAV, lk0, lk1, lk2, lk3, st0, st1, st2, st3, hx.atI, hl.at, touch]; rfl) (by first | exact .inl rfl | exact .inr (apart_nil _) | (right; apply apart_mk; simp only [apartL, List.nil_append, List.cons_append, List.getElem?_cons_succ, List.getElem?_cons_zero, Tch.free, and_true, true_and]; first | done | omega)) (by simp only [pt8, pt0, pt1, pt2, pt3, pt4, pt5, pt6, pt7]; rfl) ?_)
      | (refine WT.bigN rfl rfl (by intro; simp (disch := omega) only [go_sem, zeros, Zz.cut, List.append_assoc, List.length_append, Nat.reduceAdd, Nat.reduceMul, Nat.reduceSub, Nat.reduceLeDiff, Nat.reduceEqDiff, Int.reduceNeg, Int.reduceAdd, Int.reduceToNat, reduceIte, reduceCtorEq, tab_k, tab_f, tab_b, Nat.mul_one, ia_sref, nilEqAV, lk0, lk1, lk2, lk3, st0, st1, st2, st3, hx.atI, hl.at]; rfl) (by simp (disch := omega) only [go_sem, zeros, Zz.cut, List.append_assoc, List.length_append, Nat.reduceAdd, Nat.reduceMul, Nat.reduceSub, Nat.reduceLeDiff, Nat.reduceEqDiff, Int.reduceNeg, Int.reduceAdd, Int.reduceToNat, reduceIte, reduceCtorEq, tab_k, tab_f, tab_b, Nat.mul_one, ia_sref, nilEqAV, lk0, lk1, lk2, lk3, st0, st1, st2, st3, hx.atI, hl.at, touch]; rfl) (by first | exact .inl rfl | exact .inr (apart_nil _) | (right; apply apart_mk; simp only [apartL, List.nil_append, List.cons_append, List.getElem?_cons_succ, List.getElem?_cons_zero, Tch.free, and_true, true_and]; first | done | omega)) ?_)
      | (refine WC.yes rfl ?_)
      | (refine WC.no rfl ?_)
      | (refine WC.skip ?_)
      | (refine WC.exit ?_)
      | (refine WC.ret ?_)
      | (refine WC.block ?_)
      | (refine WT.em2 rfl (by intro hp; simp only [hp, decide_true]; rfl) (by intro hp; simp only [hp, decide_false]; rfl) (fun hp => ?_) (fun hp => ?_) <;> try (exfalso; first | omega | contradiction))
      | (refine WO.em2 rfl (by intro hp; simp only [hp, decide_true]; rfl) (by intro hp; simp only [hp, decide_false]; rfl) (fun hp => ?_) (fun hp => ?_) <;> try (exfalso; first | omega | contradiction))
      | (refine WC.em2 rfl (fun hp => ?_) (fun hp => ?_) <;> try (exfalso; first | omega | contradiction)))
    · exact ⟨_, rfl, false, ⟨fun h => (by cases h), fun h => absurd (h.2.2 k hk) (by omega)⟩, rfl⟩
    · exact ⟨_, rfl, false, ⟨fun h => (by cases h), fun h => absurd (h.2.2 k hk) (by omega)⟩, rfl⟩
    · exact ⟨m - 1, by omega, _, _, k + 1, rfl, rfl, rfl, rfl, rfl, rfl, by omega, fun j hj => by
        by_cases e : j = k
        · subst e; omega
        · exact ih2 j (by omega)⟩
  · have hk' : k = rs.length := by omega
    subst hk'
    repeat' (first
      | (refine WO.yes rfl ?_)
      | (refine WO.noE rfl (by simp only [pt8, pt0, pt1, pt2, pt3, pt4, pt5, pt6, pt7]; rfl) ?_)
      | (refine WO.opE (by intro; simp (disch := omega) only [go_sem, zeros, Zz.cut, List.append_assoc, List.length_append, Nat.reduceAdd, Nat.reduceMul, Nat.reduceSub, Nat.reduceLeDiff, Nat.reduceEqDiff, Int.reduceNeg, Int.reduceAdd, Int.reduceToNat, reduceIte, reduceCtorEq, tab_k, tab_f, tab_b, Nat.mul_one, ia_sref, nilEqAV, lk0, lk1, lk2, lk3, st0, st1, st2, st3]; rfl) (by simp only [pt8, pt0, pt1, pt2, pt3, pt4, pt5, pt6, pt7]; rfl) ?_)
      | (refine WO.opN (by intro; simp (disch := omega) only [go_sem, zeros, Zz.cut, List.append_assoc, List.length_append, Nat.reduceAdd, Nat.reduceMul, Nat.reduceSub, Nat.reduceLeDiff, Nat.reduceEqDiff, Int.reduceNeg, Int.reduceAdd, Int.reduceToNat, reduceIte, reduceCtorEq, tab_k, tab_f, tab_b, Nat.mul_one, ia_sref, nilEqAV, lk0, lk1, lk2, lk3, st0, st1, st2, st3]; rfl) ?_)
      | (refine WO.opE (by intro; exact ev_lenS (by simp only [go_sem]; first | rfl | assumption)) (by simp only [pt8, pt0, pt1, pt2, pt3, pt4, pt5, pt6, pt7]; rfl) ?_)
      | (refine WO.opE (by intro; exact ev_lenS (by simp only [go_sem]; exact hlen)) (by simp only [pt8, pt0, pt1, pt2, pt3, pt4, pt5, pt6, pt7]; rfl) ?_)
      | (refine WO.opE (by intro; exact ev_lenS (by simp only [go_sem]; exact hxl)) (by simp only [pt8, pt0, pt1, pt2, pt3, pt4, pt5, pt6, pt7]; rfl) ?_)
      | (refine WC.seq ?_)
      | (refine WC.region ?_)
      | (refine WO.nil ?_)
      | (simp only [fl1, fl2, fl3, fl4, fl5, fl6, fl7, fl8, fl9, fl10, Nat.reduceBEq])
      | (refine WC.calm rfl ?_)
      | (refine WC.drawT ?_)
      | (refine WT.nil ?_)
      | (refine WT.yes rfl ?_)
      | (refine WT.no rfl (by simp only [pt8, pt0, pt1, pt2, pt3, pt4, pt5, pt6, pt7]; rfl) ?_)
      | (refine WT.free rfl (by intro; simp (disch := omega) only [go_sem, zeros, Zz.cut, List.append_assoc, List.length_append, Nat.reduceAdd, Nat.reduceMul, Nat.reduceSub, Nat.reduceLeDiff, Nat.reduceEqDiff, Int.reduceNeg, Int.reduceAdd, Int.reduceToNat, reduceIte, reduceCtorEq, tab_k, tab_f, tab_b, Nat.mul_one, ia_sref, nilEqAV, lk0, lk1, lk2, lk3, st0, st1, st2, st3]; rfl) rfl (by simp only [pt8, pt0, pt1, pt2, pt3, pt4, pt5, pt6, pt7]; rfl) ?_)
      | (refine WT.big rfl rfl (by intro; simp (disch := omega) only [go_sem, zeros, Zz.cut, List.append_assoc, List.length_append, Nat.reduceAdd, Nat.reduceMul, Nat.reduceSub, Nat.reduceLeDiff, Nat.reduceEqDiff, Int.reduceNeg, Int.reduceAdd, Int.reduceToNat, reduceIte, reduceCtorEq, tab_k, tab_f, tab_b, Nat.mul_one, ia_sref, nilEqAV, lk0, lk1, lk2, lk3, st0, st1, st2, st3]; rfl) (by simp (disch := omega) only [go_sem, zeros, Zz.cut, List.append_assoc, List.length_append, Nat.reduceAdd, Nat.reduceMul, Nat.reduceSub, Nat.reduceLeDiff, Nat.reduceEqDiff, Int.reduceNeg, Int.reduceAdd, Int.reduceToNat, reduceIte, reduceCtorEq, tab_k, tab_f, tab_b, Nat.mul_one, ia_sref, nilEqAV, lk0, lk1, lk2, lk3, st0, st1, st2, st3, touch]; rfl) (by first | exact .inl rfl | exact .inr (apart_nil _) | (right; apply apart_mk; simp only [apartL, List.nil_append, List.cons_append, List.getElem?_cons_succ, List.getElem?_cons_zero, Tch.free, and_true, true_and]; first | done | omega)) (by simp only [pt8, pt0, pt1, pt2, pt3, pt4, pt5, pt6, pt7]; rfl) ?_)
      | (refine WT.bigN rfl rfl (by intro; simp (disch := omega) only [go_sem, zeros, Zz.cut, List.append_assoc, List.length_append, Nat.reduceAdd, Nat.reduceMul, Nat.reduceSub, Nat.reduceLeDiff, Nat.reduceEqDiff, Int.reduceNeg, Int.reduceAdd, Int.reduceToNat, reduceIte, reduceCtorEq, tab_k, tab_f, tab_b, Nat.mul_one, ia_sref, nilEqAV, lk0, lk1, lk2, lk3, st0, st1, st2, st3]; rfl) (by simp (disch := omega) only [go_sem, zeros, Zz.cut, List.append_assoc, List.length_append, Nat.reduceAdd, Nat.reduceMul, Nat.reduceSub, Nat.reduceLeDiff, Nat.reduceEqDiff, Int.reduceNeg, Int.reduceAdd, Int.reduceToNat, reduceIte, reduceCtorEq, tab_k, tab_f, tab_b, Nat.mul_one, ia_sref, nilEqAV, lk0, lk1, lk2, lk3, st0, st1, st2, st3, touch]; rfl) (by first | exact .inl rfl | exact .inr (apart_nil _) | (right; apply apart_mk; simp only [apartL, List.nil_append, List.cons_append, List.getElem?_cons_succ, List.getElem?_cons_zero, Tch.free, and_true, true_and]; first | done | omega)) ?_)
      | (refine WC.yes rfl ?_)
      | (refine WC.no rfl ?_)
      | (refine WC.skip ?_)
      | (refine WC.exit ?_)
      | (refine WC.ret ?_)
      | (refine WC.block ?_)
      | (refine WT.em2 rfl (by intro hp; simp only [hp, decide_true]; rfl) (by intro hp; simp only [hp, decide_false]; rfl) (fun hp => ?_) (fun hp => ?_) <;> try (exfalso; first | omega | contradiction))
      | (refine WO.em2 rfl (by intro hp; simp only [hp, decide_true]; rfl) (by intro hp; simp only [hp, decide_false]; rfl) (fun hp => ?_) (fun hp => ?_) <;> try (exfalso; first | omega | contradiction))
      | (refine WC.em2 rfl (fun hp => ?_) (fun hp => ?_) <;> try (exfalso; first | omega | contradiction)))
    exact ⟨_, rfl, true, ⟨fun _ => ⟨by omega, ih, ih2⟩, fun _ => rfl⟩, rfl⟩
theorem s21 {n : Int} {rs : List Rg} (hv : VL n rs) {l : AV} (hl : RdL l rs) {x : AV} {xs : List Int} (hx : IntS x xs) (hxm : xs.length < 9223372036854775808) : ∃ b : Bool, (b = true ↔ Agree n rs xs) ∧ ∀ m, borrowE E15 21 [.int .i64 n, l, x] m = some (.bool b, m) := by
  obtain ⟨k, y, m', h, b, hb, rfl⟩ := (f21 hv hl hx hxm).ex
  exact ⟨b, hb, fun m => borrowE_of (pures_cons rfl (pures_cons hl.pureA (pures_cons hx.pureA rfl))) ⟨⟨k, _, m', h, rfl⟩⟩⟩

noncomputable def E16 : Env := E15.put 21 (borrowE E15 21)
theorem E16_ok : EnvOk Try.prog E16 := Env.put_ok E15_ok (borrowE_ok E15_ok (callable Try.func21 (by kernel_rfl)))
end Go.Proofs.Ytndaljjljmmlcaa

set_option linter.unusedSimpArgs false
set_option linter.unusedVariables false
namespace Go.Proofs.Ytndaljjljmmlcaa
open Go.Zz
set_option maxRecDepth 100000
/-- with: one reading more. -/
theorem f25 {rs : List Rg} {l : AV} (hl : RdL l rs) (hmax : (rs.length + 1) * 32 ≤ 140737488355328) (r : Rg) : WF E16 (.func 25 [] []) [l, .agg r.cells] ⟨[], []⟩ fun y m' => resV m'.heap y = some (.sval false (rs ++ [r]).length ((rs ++ [r]).map Rg.cells).flatten) := by
  have hlen := hl.len
  show WF E16 (.func 25 [] []) [l, .agg [.int .i64 r.a, .int .i64 r.b, .int .i64 r.lo, .int .i64 r.hi]] ⟨[], []⟩ _
  refine WF.fnE rfl (fn_of Try.func25 cir25) (by show 2 ≤ 11; decide) ?_
  unfold ir25
  simp only [padTo, List.replicate, List.nil_append, List.append_nil, List.cons_append]
  refine WC.seq (WC.region ?_)
  repeat' (first
    | (refine WO.yes rfl ?_)
    | (refine WO.noE rfl (by simp only [pt8, pt0, pt1, pt2, pt3, pt4, pt5, pt6, pt7]; rfl) ?_)
    | (refine WO.opE (by intro; simp (disch := omega) only [go_sem, Zz.look, Zz.over, Zz.cut, Nat.reduceAdd, Nat.reduceMul, Nat.reduceSub, Nat.reduceLeDiff, Nat.reduceEqDiff, Int.reduceNeg, Int.reduceAdd, Int.reduceToNat, reduceIte, reduceCtorEq, tab_k, tab_f, tab_b, Nat.mul_one, ia_sref, nilEqAV, lk0, lk1, lk2, lk3, st0, st1, st2, st3]; rfl) (by simp only [pt8, pt0, pt1, pt2, pt3, pt4, pt5, pt6, pt7]; rfl) ?_)
    | (refine WO.opN (by intro; simp (disch := omega) only [go_sem, Zz.look, Zz.over, Zz.cut, Nat.reduceAdd, Nat.reduceMul, Nat.reduceSub, Nat.reduceLeDiff, Nat.reduceEqDiff, Int.reduceNeg, Int.reduceAdd, Int.reduceToNat, reduceIte, reduceCtorEq, tab_k, tab_f, tab_b, Nat.mul_one, ia_sref, nilEqAV, lk0, lk1, lk2, lk3, st0, st1, st2, st3]; rfl) ?_)
    | (refine WO.opE (by intro; exact ev_lenS (by simp only [go_sem]; first | rfl | assumption)) (by simp only [pt8, pt0, pt1, pt2, pt3, pt4, pt5, pt6, pt7]; rfl) ?_)
    | (refine WT.em2 rfl (by intro hp; simp only [hp, decide_true]; rfl) (by intro hp; simp only [hp, decide_false]; rfl) (fun hp => ?_) (fun hp => ?_) <;> try (exfalso; first | omega | contradiction))
    | (refine WO.em2 rfl (by intro hp; simp only [hp, decide_true]; rfl) (by intro hp; simp only [hp, decide_false]; rfl) (fun hp => ?_) (fun hp => ?_) <;> try (exfalso; first | omega | contradiction))
    | (refine WC.em2 rfl (fun hp => ?_) (fun hp => ?_) <;> try (exfalso; first | omega | contradiction)))
  refine WO.nil ?_
  refine WC.seq (WC.drawT ?_)
  have g0 : GS 4 ([some ⟨0, [.int .i64 r.a, .int .i64 r.b, .int .i64 r.lo, .int .i64 r.hi]⟩, some ⟨0, []⟩, some ⟨0, [.int .i64 r.a, .int .i64 r.b, .int .i64 r.lo, .int .i64 r.hi]⟩] : Hp) (.sref 1 0 0 4 0 (some 0)) 1 [] := .inr (.inl ⟨0, rfl, rfl, rfl⟩)
  have hsc := SL.scells hl ([some ⟨0, [.int .i64 r.a, .int .i64 r.b, .int .i64 r.lo, .int .i64 r.hi]⟩, some ⟨0, []⟩, some ⟨0, [.int .i64 r.a, .int .i64 r.b, .int .i64 r.lo, .int .i64 r.hi]⟩] : Hp)
  have hfl : (rs.map Rg.cells).flatten.length = rs.length * 4 := by rw [flat_len hl.1, List.length_map]
  obtain ⟨v7, q7, H7, e7, a7, b7, c7, d7⟩ := g0.appendX (L := []) (bytes := 32) hsc hlen hfl (by decide) ⟨by simp; omega, by simp; omega⟩
  have hk2 : Zz.look H7 2 0 = some [.int .i64 r.a, .int .i64 r.b, .int .i64 r.lo, .int .i64 r.hi] := by rw [look_of_get (d7 2 (by simp) (by decide))]; rfl
  rw [List.nil_append] at a7
  obtain ⟨v10, q10, H10, e10, a10, b10, c10, d10⟩ := a7.append (L := []) (bytes := 32) (n := 1) (cap := some 1) hk2 rfl Nat.one_pos (by decide) ⟨by rw [hfl, Nat.mul_div_cancel _ (by decide)]; omega, by rw [hfl, Nat.mul_div_cancel _ (by decide)]; omega⟩
  repeat' (first
    | (refine WO.yes rfl ?_)
    | (refine WO.noE rfl (by simp only [pt8, pt0, pt1, pt2, pt3, pt4, pt5, pt6, pt7]; rfl) ?_)
    | (refine WO.opE (by intro; simp (disch := omega) only [go_sem, Zz.look, Zz.over, Zz.cut, Nat.reduceAdd, Nat.reduceMul, Nat.reduceSub, Nat.reduceLeDiff, Nat.reduceEqDiff, Int.reduceNeg, Int.reduceAdd, Int.reduceToNat, reduceIte, reduceCtorEq, tab_k, tab_f, tab_b, Nat.mul_one, ia_sref, nilEqAV, lk0, lk1, lk2, lk3, st0, st1, st2, st3, cut4]; rfl) (by simp only [pt8, pt0, pt1, pt2, pt3, pt4, pt5, pt6, pt7]; rfl) ?_)
    | (refine WO.opN (by intro; simp (disch := omega) only [go_sem, Zz.look, Zz.over, Zz.cut, Nat.reduceAdd, Nat.reduceMul, Nat.reduceSub, Nat.reduceLeDiff, Nat.reduceEqDiff, Int.reduceNeg, Int.reduceAdd, Int.reduceToNat, reduceIte, reduceCtorEq, tab_k, tab_f, tab_b, Nat.mul_one, ia_sref, nilEqAV, lk0, lk1, lk2, lk3, st0, st1, st2, st3, cut4]; rfl) ?_)
    | (refine WO.opE (by intro; exact ev_lenS (by simp only [go_sem]; first | rfl | assumption)) (by simp only [pt8, pt0, pt1, pt2, pt3, pt4, pt5, pt6, pt7]; rfl) ?_)
    | (refine WC.seq ?_)
    | (refine WC.region ?_)
    | (refine WO.nil ?_)
    | (simp only [fl1, fl2, fl3, fl4, fl5, fl6, fl7, fl8, fl9, fl10, Nat.reduceBEq])
    | (refine WC.calm rfl ?_)
    | (refine WC.drawT ?_)
    | (refine WT.nil ?_)
    | (refine WT.yes rfl ?_)
    | (refine WT.no rfl (by simp only [pt8, pt0, pt1, pt2, pt3, pt4, pt5, pt6, pt7]; rfl) ?_)
    | (refine WT.free rfl (by intro; simp (disch := omega) only [go_sem, Zz.look, Zz.over, Zz.cut, Nat.reduceAdd, Nat.reduceMul, Nat.reduceSub, Nat.reduceLeDiff, Nat.reduceEqDiff, Int.reduceNeg, Int.reduceAdd, Int.reduceToNat, reduceIte, reduceCtorEq, tab_k, tab_f, tab_b, Nat.mul_one, ia_sref, nilEqAV, lk0, lk1, lk2, lk3, st0, st1, st2, st3, cut4]; rfl) rfl (by simp only [pt8, pt0, pt1, pt2, pt3, pt4, pt5, pt6, pt7]; rfl) ?_)
    | (refine WT.big rfl rfl (by intro; simp (disch := omega) only [go_sem, Zz.look, Zz.over, Zz.cut, Nat.reduceAdd, Nat.reduceMul, Nat.reduceSub, Nat.reduceLeDiff, Nat.reduceEqDiff, Int.reduceNeg, Int.reduceAdd, Int.reduceToNat, reduceIte, reduceCtorEq, tab_k, tab_f, tab_b, Nat.mul_one, ia_sref, nilEqAV, lk0, lk1, lk2, lk3, st0, st1, st2, st3, cut4]; rfl) (by simp (disch := omega) only [go_sem, Zz.look, Zz.over, Zz.cut, Nat.reduceAdd, Nat.reduceMul, Nat.reduceSub, Nat.reduceLeDiff, Nat.reduceEqDiff, Int.reduceNeg, Int.reduceAdd, Int.reduceToNat, reduceIte, reduceCtorEq, tab_k, tab_f, tab_b, Nat.mul_one, ia_sref, nilEqAV, lk0, lk1, lk2, lk3, st0, st1, st2, st3, cut4, touch]; rfl) (by first | exact .inl rfl | exact .inr (apart_nil _) | (right; apply apart_mk; simp only [apartL, List.nil_append, List.cons_append, List.getElem?_cons_succ, List.getElem?_cons_zero, Tch.free, and_true, true_and]; first | done | omega)) (by simp only [pt8, pt0, pt1, pt2, pt3, pt4, pt5, pt6, pt7]; rfl) ?_)
    | (refine WT.bigN rfl rfl (by intro; simp (disch := omega) only [go_sem, Zz.look, Zz.over, Zz.cut, Nat.reduceAdd, Nat.reduceMul, Nat.reduceSub, Nat.reduceLeDiff, Nat.reduceEqDiff, Int.reduceNeg, Int.reduceAdd, Int.reduceToNat, reduceIte, reduceCtorEq, tab_k, tab_f, tab_b, Nat.mul_one, ia_sref, nilEqAV, lk0, lk1, lk2, lk3, st0, st1, st2, st3, cut4]; rfl) (by simp (disch := omega) only [go_sem, Zz.look, Zz.over, Zz.cut, Nat.reduceAdd, Nat.reduceMul, Nat.reduceSub, Nat.reduceLeDiff, Nat.reduceEqDiff, Int.reduceNeg, Int.reduceAdd, Int.reduceToNat, reduceIte, reduceCtorEq, tab_k, tab_f, tab_b, Nat.mul_one, ia_sref, nilEqAV, lk0, lk1, lk2, lk3, st0, st1, st2, st3, cut4, touch]; rfl) (by first | exact .inl rfl | exact .inr (apart_nil _) | (right; apply apart_mk; simp only [apartL, List.nil_append, List.cons_append, List.getElem?_cons_succ, List.getElem?_cons_zero, Tch.free, and_true, true_and]; first | done | omega)) ?_)
    | (refine WC.yes rfl ?_)
    | (refine WC.no rfl ?_)
    | (refine WC.skip ?_)
    | (refine WC.exit ?_)
    | (refine WC.ret ?_)
    | (refine WC.block ?_)
    | (refine WT.em2 rfl (by intro hp; simp only [hp, decide_true]; rfl) (by intro hp; simp only [hp, decide_false]; rfl) (fun hp => ?_) (fun hp => ?_) <;> try (exfalso; first | omega | contradiction))
    | (refine WO.em2 rfl (by intro hp; simp only [hp, decide_true]; rfl) (by intro hp; simp only [hp, decide_false]; rfl) (fun hp => ?_) (fun hp => ?_) <;> try (exfalso; first | omega | contradiction))
    | (refine WC.em2 rfl (fun hp => ?_) (fun hp => ?_) <;> try (exfalso; first | omega | contradiction)))
  refine WT.append (sv := .sref 1 0 0 4 0 (some 0)) (xv := l) rfl rfl e7 (by simp [apartT, slBlk, Tch.free]) (by obtain ⟨_, ⟨rfl, _⟩ | ⟨f, rfl⟩⟩ := hl <;> trivial) (by simp only [pt8, pt0, pt1, pt2, pt3, pt4, pt5, pt6, pt7]; rfl) ?_
  refine WT.append (sv := v7) (xv := .sref 2 0 0 4 1 (some 1)) rfl rfl e10 (apart_nil _) (apart_nil _) (by simp only [pt8, pt0, pt1, pt2, pt3, pt4, pt5, pt6, pt7]; rfl) ?_
  repeat' (first
    | (refine WO.yes rfl ?_)
    | (refine WO.noE rfl (by simp only [pt8, pt0, pt1, pt2, pt3, pt4, pt5, pt6, pt7]; rfl) ?_)
    | (refine WO.opE (by intro; simp (disch := omega) only [go_sem, Zz.look, Zz.over, Zz.cut, Nat.reduceAdd, Nat.reduceMul, Nat.reduceSub, Nat.reduceLeDiff, Nat.reduceEqDiff, Int.reduceNeg, Int.reduceAdd, Int.reduceToNat, reduceIte, reduceCtorEq, tab_k, tab_f, tab_b, Nat.mul_one, ia_sref, nilEqAV, lk0, lk1, lk2, lk3, st0, st1, st2, st3]; rfl) (by simp only [pt8, pt0, pt1, pt2, pt3, pt4, pt5, pt6, pt7]; rfl) ?_)
    | (refine WO.opN (by intro; simp (disch := omega) only [go_sem, Zz.look, Zz.over, Zz.cut, Nat.reduceAdd, Nat.reduceMul, Nat.reduceSub, Nat.reduceLeDiff, Nat.reduceEqDiff, Int.reduceNeg, Int.reduceAdd, Int.reduceToNat, reduceIte, reduceCtorEq, tab_k, tab_f, tab_b, Nat.mul_one, ia_sref, nilEqAV, lk0, lk1, lk2, lk3, st0, st1, st2, st3]; rfl) ?_)
    | (refine WO.opE (by intro; exact ev_lenS (by simp only [go_sem]; first | rfl | assumption)) (by simp only [pt8, pt0, pt1, pt2, pt3, pt4, pt5, pt6, pt7]; rfl) ?_)
    | (refine WC.seq ?_)
    | (refine WC.region ?_)
    | (refine WO.nil ?_)
    | (simp only [fl1, fl2, fl3, fl4, fl5, fl6, fl7, fl8, fl9, fl10, Nat.reduceBEq])
    | (refine WC.calm rfl ?_)
    | (refine WC.drawT ?_)
    | (refine WT.nil ?_)
    | (refine WT.yes rfl ?_)
    | (refine WT.no rfl (by simp only [pt8, pt0, pt1, pt2, pt3, pt4, pt5, pt6, pt7]; rfl) ?_)
    | (refine WT.free rfl (by intro; simp (disch := omega) only [go_sem, Zz.look, Zz.over, Zz.cut, Nat.reduceAdd, Nat.reduceMul, Nat.reduceSub, Nat.reduceLeDiff, Nat.reduceEqDiff, Int.reduceNeg, Int.reduceAdd, Int.reduceToNat, reduceIte, reduceCtorEq, tab_k, tab_f, tab_b, Nat.mul_one, ia_sref, nilEqAV, lk0, lk1, lk2, lk3, st0, st1, st2, st3]; rfl) rfl (by simp only [pt8, pt0, pt1, pt2, pt3, pt4, pt5, pt6, pt7]; rfl) ?_)
    | (refine WT.big rfl rfl (by intro; simp (disch := omega) only [go_sem, Zz.look, Zz.over, Zz.cut, Nat.reduceAdd, Nat.reduceMul, Nat.reduceSub, Nat.reduceLeDiff, Nat.reduceEqDiff, Int.reduceNeg, Int.reduceAdd, Int.reduceToNat, reduceIte, reduceCtorEq, tab_k, tab_f, tab_b, Nat.mul_one, ia_sref, nilEqAV, lk0, lk1, lk2, lk3, st0, st1, st2, st3]; rfl) (by simp (disch := omega) only [go_sem, Zz.look, Zz.over, Zz.cut, Nat.reduceAdd, Nat.reduceMul, Nat.reduceSub, Nat.reduceLeDiff, Nat.reduceEqDiff, Int.reduceNeg, Int.reduceAdd, Int.reduceToNat, reduceIte, reduceCtorEq, tab_k, tab_f, tab_b, Nat.mul_one, ia_sref, nilEqAV, lk0, lk1, lk2, lk3, st0, st1, st2, st3, touch]; rfl) (by first | exact .inl rfl | exact .inr (apart_nil _) | (right; apply apart_mk; simp only [apartL, List.nil_append, List.cons_append, List.getElem?_cons_succ, List.getElem?_cons_zero, Tch.free, and_true, true_and]; first | done | omega)) (by simp only [pt8, pt0, pt1, pt2, pt3, pt4, pt5, pt6, pt7]; rfl) ?_)
    | (refine WT.bigN rfl rfl (by intro; simp (disch := omega) only [go_sem, Zz.look, Zz.over, Zz.cut, Nat.reduceAdd, Nat.reduceMul, Nat.reduceSub, Nat.reduceLeDiff, Nat.reduceEqDiff, Int.reduceNeg, Int.reduceAdd, Int.reduceToNat, reduceIte, reduceCtorEq, tab_k, tab_f, tab_b, Nat.mul_one, ia_sref, nilEqAV, lk0, lk1, lk2, lk3, st0, st1, st2, st3]; rfl) (by simp (disch := omega) only [go_sem, Zz.look, Zz.over, Zz.cut, Nat.reduceAdd, Nat.reduceMul, Nat.reduceSub, Nat.reduceLeDiff, Nat.reduceEqDiff, Int.reduceNeg, Int.reduceAdd, Int.reduceToNat, reduceIte, reduceCtorEq, tab_k, tab_f, tab_b, Nat.mul_one, ia_sref, nilEqAV, lk0, lk1, lk2, lk3, st0, st1, st2, st3, touch]; rfl) (by first | exact .inl rfl | exact .inr (apart_nil _) | (right; apply apart_mk; simp only [apartL, List.nil_append, List.cons_append, List.getElem?_cons_succ, List.getElem?_cons_zero, Tch.free, and_true, true_and]; first | done | omega)) ?_)
    | (refine WC.yes rfl ?_)
    | (refine WC.no rfl ?_)
    | (refine WC.skip ?_)
    | (refine WC.exit ?_)
    | (refine WC.ret ?_)
    | (refine WC.block ?_)
    | (refine WT.em2 rfl (by intro hp; simp only [hp, decide_true]; rfl) (by intro hp; simp only [hp, decide_false]; rfl) (fun hp => ?_) (fun hp => ?_) <;> try (exfalso; first | omega | contradiction))
    | (refine WO.em2 rfl (by intro hp; simp only [hp, decide_true]; rfl) (by intro hp; simp only [hp, decide_false]; rfl) (fun hp => ?_) (fun hp => ?_) <;> try (exfalso; first | omega | contradiction))
    | (refine WC.em2 rfl (fun hp => ?_) (fun hp => ?_) <;> try (exfalso; first | omega | contradiction)))
  refine ⟨_, rfl, ?_⟩
  obtain ⟨g, n, rfl, h1, h2, h3⟩ := a10.ref (by simp)
  have hn : n = rs.length + 1 := by
    rw [List.length_append, hfl] at h1
    simp at h1
    omega
  subst hn
  have hfa : ((rs.map Rg.cells).flatten ++ [AV.int .i64 r.a, .int .i64 r.b, .int .i64 r.lo, .int .i64 r.hi]).all flatAV = true := by
    rw [List.all_append, Bool.and_eq_true]
    refine ⟨?_, rfl⟩
    rw [List.all_eq_true]
    intro v hv
    obtain ⟨c, hc, hvc⟩ := List.mem_flatten.1 hv
    obtain ⟨r', _, rfl⟩ := List.mem_map.1 hc
    exact List.all_eq_true.1 (rfl : r'.cells.all flatAV = true) v hvc
  have := resC_flat (cap := none) h2 h1 hfa
  have e : ((rs ++ [r]).map Rg.cells).flatten = (rs.map Rg.cells).flatten ++ [AV.int .i64 r.a, .int .i64 r.b, .int .i64 r.lo, .int .i64 r.hi] := by simp [Rg.cells]
  rw [e, List.length_append]
  exact this
theorem rdl_mk (rs : List Rg) (f : Bool) : RdL (.sval f rs.length (rs.map Rg.cells).flatten) rs := by
  refine ⟨fun c hc => ?_, .inr ⟨f, by simp⟩⟩
  obtain ⟨r, _, rfl⟩ := List.mem_map.1 hc
  rfl
theorem s25 {rs : List Rg} {l : AV} (hl : RdL l rs) (hmax : (rs.length + 1) * 32 ≤ 140737488355328) (r : Rg) {m : Mem} : borrowE E16 25 [l, .agg r.cells] m = some (.sval false (rs ++ [r]).length ((rs ++ [r]).map Rg.cells).flatten, m) :=
  borrowE_of (pures_cons hl.pureA (pures_cons rfl rfl)) (f25 hl hmax r)

noncomputable def E17 : Env := E16.put 25 (borrowE E16 25)
theorem E17_ok : EnvOk Try.prog E17 := Env.put_ok E16_ok (borrowE_ok E16_ok (callable Try.func25 (by kernel_rfl)))
/-- The readings of the examples. -/
def smp (most : Int) : List Rg := [⟨0, 1, 100, 110⟩, ⟨1, 2, 50, 55⟩, ⟨0, 2, 140, most⟩]
theorem s26 {most : Int} {m : Mem} : borrowE E17 26 [.int .i64 most] m = some (.sval true (smp most).length ((smp most).map Rg.cells).flatten, m) := by
  refine borrowE_of rfl ?_
  refine WF.fnE rfl (fn_of Try.func26 cir26) (by show 1 ≤ 8; decide) ?_
  unfold ir26
  simp only [padTo, List.replicate, List.nil_append, List.append_nil, List.cons_append]
  repeat' (first
    | (refine WO.yes rfl ?_)
    | (refine WO.noE rfl (by simp only [pt8, pt0, pt1, pt2, pt3, pt4, pt5, pt6, pt7]; rfl) ?_)
    | (refine WO.opE (by intro; simp (disch := omega) only [go_sem, Zz.look, Zz.over, Zz.cut, Nat.reduceAdd, Nat.reduceMul, Nat.reduceSub, Nat.reduceLeDiff, Nat.reduceEqDiff, Int.reduceNeg, Int.reduceAdd, Int.reduceToNat, reduceIte, reduceCtorEq, tab_k, tab_f, tab_b, Nat.mul_one, ia_sref, nilEqAV, lk0, lk1, lk2, lk3, st0, st1, st2, st3]; rfl) (by simp only [pt8, pt0, pt1, pt2, pt3, pt4, pt5, pt6, pt7]; rfl) ?_)
    | (refine WO.opN (by intro; simp (disch := omega) only [go_sem, Zz.look, Zz.over, Zz.cut, Nat.reduceAdd, Nat.reduceMul, Nat.reduceSub, Nat.reduceLeDiff, Nat.reduceEqDiff, Int.reduceNeg, Int.reduceAdd, Int.reduceToNat, reduceIte, reduceCtorEq, tab_k, tab_f, tab_b, Nat.mul_one, ia_sref, nilEqAV, lk0, lk1, lk2, lk3, st0, st1, st2, st3]; rfl) ?_)
    | (refine WO.opE (by intro; exact ev_lenS (by simp only [go_sem]; first | rfl | assumption)) (by simp only [pt8, pt0, pt1, pt2, pt3, pt4, pt5, pt6, pt7]; rfl) ?_)
    | (refine WC.seq ?_)
    | (refine WC.region ?_)
    | (refine WO.nil ?_)
    | (simp only [fl1, fl2, fl3, fl4, fl5, fl6, fl7, fl8, fl9, fl10, Nat.reduceBEq])
    | (refine WC.calm rfl ?_)
    | (refine WC.drawT ?_)
    | (refine WT.nil ?_)
    | (refine WT.yes rfl ?_)
    | (refine WT.no rfl (by simp only [pt8, pt0, pt1, pt2, pt3, pt4, pt5, pt6, pt7]; rfl) ?_)
    | (refine WT.free rfl (by intro; simp (disch := omega) only [go_sem, Zz.look, Zz.over, Zz.cut, Nat.reduceAdd, Nat.reduceMul, Nat.reduceSub, Nat.reduceLeDiff, Nat.reduceEqDiff, Int.reduceNeg, Int.reduceAdd, Int.reduceToNat, reduceIte, reduceCtorEq, tab_k, tab_f, tab_b, Nat.mul_one, ia_sref, nilEqAV, lk0, lk1, lk2, lk3, st0, st1, st2, st3]; rfl) rfl (by simp only [pt8, pt0, pt1, pt2, pt3, pt4, pt5, pt6, pt7]; rfl) ?_)
    | (refine WT.big rfl rfl (by intro; simp (disch := omega) only [go_sem, Zz.look, Zz.over, Zz.cut, Nat.reduceAdd, Nat.reduceMul, Nat.reduceSub, Nat.reduceLeDiff, Nat.reduceEqDiff, Int.reduceNeg, Int.reduceAdd, Int.reduceToNat, reduceIte, reduceCtorEq, tab_k, tab_f, tab_b, Nat.mul_one, ia_sref, nilEqAV, lk0, lk1, lk2, lk3, st0, st1, st2, st3]; rfl) (by simp (disch := omega) only [go_sem, Zz.look, Zz.over, Zz.cut, Nat.reduceAdd, Nat.reduceMul, Nat.reduceSub, Nat.reduceLeDiff, Nat.reduceEqDiff, Int.reduceNeg, Int.reduceAdd, Int.reduceToNat, reduceIte, reduceCtorEq, tab_k, tab_f, tab_b, Nat.mul_one, ia_sref, nilEqAV, lk0, lk1, lk2, lk3, st0, st1, st2, st3, touch]; rfl) (by first | exact .inl rfl | exact .inr (apart_nil _) | (right; apply apart_mk; simp only [apartL, List.nil_append, List.cons_append, List.getElem?_cons_succ, List.getElem?_cons_zero, Tch.free, and_true, true_and]; first | done | omega)) (by simp only [pt8, pt0, pt1, pt2, pt3, pt4, pt5, pt6, pt7]; rfl) ?_)
    | (refine WT.bigN rfl rfl (by intro; simp (disch := omega) only [go_sem, Zz.look, Zz.over, Zz.cut, Nat.reduceAdd, Nat.reduceMul, Nat.reduceSub, Nat.reduceLeDiff, Nat.reduceEqDiff, Int.reduceNeg, Int.reduceAdd, Int.reduceToNat, reduceIte, reduceCtorEq, tab_k, tab_f, tab_b, Nat.mul_one, ia_sref, nilEqAV, lk0, lk1, lk2, lk3, st0, st1, st2, st3]; rfl) (by simp (disch := omega) only [go_sem, Zz.look, Zz.over, Zz.cut, Nat.reduceAdd, Nat.reduceMul, Nat.reduceSub, Nat.reduceLeDiff, Nat.reduceEqDiff, Int.reduceNeg, Int.reduceAdd, Int.reduceToNat, reduceIte, reduceCtorEq, tab_k, tab_f, tab_b, Nat.mul_one, ia_sref, nilEqAV, lk0, lk1, lk2, lk3, st0, st1, st2, st3, touch]; rfl) (by first | exact .inl rfl | exact .inr (apart_nil _) | (right; apply apart_mk; simp only [apartL, List.nil_append, List.cons_append, List.getElem?_cons_succ, List.getElem?_cons_zero, Tch.free, and_true, true_and]; first | done | omega)) ?_)
    | (refine WC.yes rfl ?_)
    | (refine WC.no rfl ?_)
    | (refine WC.skip ?_)
    | (refine WC.exit ?_)
    | (refine WC.ret ?_)
    | (refine WC.block ?_)
    | (refine WT.em2 rfl (by intro hp; simp only [hp, decide_true]; rfl) (by intro hp; simp only [hp, decide_false]; rfl) (fun hp => ?_) (fun hp => ?_) <;> try (exfalso; first | omega | contradiction))
    | (refine WO.em2 rfl (by intro hp; simp only [hp, decide_true]; rfl) (by intro hp; simp only [hp, decide_false]; rfl) (fun hp => ?_) (fun hp => ?_) <;> try (exfalso; first | omega | contradiction))
    | (refine WC.em2 rfl (fun hp => ?_) (fun hp => ?_) <;> try (exfalso; first | omega | contradiction)))
  exact ⟨_, rfl, rfl⟩

noncomputable def E18 : Env := E17.put 26 (borrowE E17 26)
theorem E18_ok : EnvOk Try.prog E18 := Env.put_ok E17_ok (borrowE_ok E17_ok (callable Try.func26 (by kernel_rfl)))
end Go.Proofs.Ytndaljjljmmlcaa

