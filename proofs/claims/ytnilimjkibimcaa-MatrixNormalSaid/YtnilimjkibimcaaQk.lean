import Derived.Test.YtnilimjkibimcaaQj
import Derived.Test.YtnilimjkibimcaaQB
import Derived.Test.YtnilimjkibimcaaPS
set_option linter.unusedSimpArgs false
set_option linter.unusedVariables false

namespace Go.Proofs.Ytnilimjkibimcaa
open Go.Zz
set_option maxRecDepth 100000
set_option maxHeartbeats 8000000
noncomputable def D1 : Env := C3.put 43 (borrowE E42 43)
theorem D1_ok : EnvOk Try.prog D1 := Env.put_ok C3_ok (borrowE_ok E42_ok (callable Try.func43 (by kernel_rfl)))
noncomputable def D2 : Env := D1.put 38 (borrowE E43 38)
theorem D2_ok : EnvOk Try.prog D2 := Env.put_ok D1_ok (borrowE_ok E43_ok (callable Try.func38 (by kernel_rfl)))
noncomputable def D3 : Env := D2.put 37 (borrowE E44 37)
theorem D3_ok : EnvOk Try.prog D3 := Env.put_ok D2_ok (borrowE_ok E44_ok (callable Try.func37 (by kernel_rfl)))
noncomputable def D4 : Env := D3.put 39 (borrowE E45 39)
theorem D4_ok : EnvOk Try.prog D4 := Env.put_ok D3_ok (borrowE_ok E45_ok (callable Try.func39 (by kernel_rfl)))
theorem run4 {l : AV} {rows : List (List Int)} (hl : RwL l rows) (hmax : rows.length < 9223372036854775807) : WF D4 (.func 4 [] []) [l] ⟨[], []⟩ fun y m' => y = .bool true := by
  have hll := hl.len
  have c24 := fun m => s24 (m := m)
  obtain ⟨x1, hx1, c27⟩ := x27 hl hmax
  have c27 := fun m => c27 m l (hl.byVal _)
  by_cases hv : VM rows
  · have ec : errC rows = 0 := if_pos hv
    rw [ec] at c27
    have h6 := hl.sixR.six
    have e1 : hermR rows = hermF rows := if_pos hv
    rw [e1] at hx1
    have l1 := hx1.len
    have hr := rank_le (fwd_B hv h6)
    have hH := herm_lat hv h6
    have hHr := rank_herm hv h6
    have h8 := hv.1
    have hHbd := herm_bd hv h6
    have hHf := hH.hf
    rw [← hH.len] at hHf
    have c37 := fun m => s37 (m := m) hx1 hHf (by omega)
    have hin : ∀ n, n < rows.length → RowL (ent (hermF rows)) (hermF rows).length fun j => (rw_ rows n).getD j 0 := fun n hn => (hH.sp _).2 (Sp.row hn)
    have c40h := fun m => s40m (m := m) hx1 (by omega) hHbd fun is js a1 a2 a3 a4 => herm_minor hv h6 a1 a2 a3 a4
    have c40a := fun m => s40a (m := m) (k := (hermF rows).length) hl hv (by omega)
    have c40b := fun m => s40a (m := m) (k := (hermF rows).length + 1) hl hv (by omega)
    rw [divRK_same (herm_same hv h6)] at c40h
    rw [divRK_over hv h6 (k := (hermF rows).length + 1) (by omega)] at c40b
    have hk6 : (hermF rows).length ≤ 6 := by omega
    generalize divRK rows (hermF rows).length = dv at *
    refine WF.fnE rfl (fn_of Try.func4 cir4) (by show 1 ≤ 78; decide) ?_
    unfold ir4; dsimp only [k0, kI, mV, oO, oG]
    simp only [padTo, List.replicate, List.nil_append, List.append_nil, List.cons_append]
    repeat' (first | (refine WO.yes rfl ?_) | (refine WO.opE (by intro; simp (disch := omega) only [go_sem, Zz.look, fillP, Option.bind_eq_bind, List.append_assoc, app_g0, app_g1, app_g2, app_g3, app_g4, app_s0, app_s1, app_s2, app_s3, app_s4, zeros, List.length_append, ov_one0, ov_one1, ov_one2, ov_one3, ov_all2, ov_all3, ov_all4, Nat.reduceAdd, Nat.reduceMul, Nat.reduceSub, Nat.reduceLeDiff, Nat.reduceEqDiff, Int.reduceNeg, Int.reduceAdd, Int.reduceToNat, reduceIte, reduceCtorEq]; rfl) (by simp only [pt8, pt0, pt1, pt2, pt3, pt4, pt5, pt6, pt7]; rfl) ?_) | (refine WO.opE (by intro; exact ev_lenS (by simp only [go_sem]; first | rfl | assumption)) (by simp only [pt8, pt0, pt1, pt2, pt3, pt4, pt5, pt6, pt7]; rfl) ?_) | (refine WO.specE rfl rfl (c24 _) (by simp only [pt8, pt0, pt1, pt2, pt3, pt4, pt5, pt6, pt7]; rfl) ?_) | (refine WO.specE rfl rfl (c27 _) (by simp only [pt8, pt0, pt1, pt2, pt3, pt4, pt5, pt6, pt7]; rfl) ?_) | (refine WO.specE rfl rfl (c37 _) (by simp only [pt8, pt0, pt1, pt2, pt3, pt4, pt5, pt6, pt7]; rfl) ?_) | (refine WC.seq ?_) | (refine WC.region ?_) | (refine WO.nil ?_) | (simp only [fl1, fl2, fl3, fl4, fl5, fl6, fl7, fl8, fl9, fl10, Nat.reduceBEq]) | (refine WC.no rfl ?_) | (refine WC.skip ?_) | (refine WC.block ?_) | (refine WO.em2 rfl (by intro hp; simp only [hp, decide_true]; rfl) (by intro hp; simp only [hp, decide_false]; rfl) (fun hp => ?_) (fun hp => ?_) <;> try (exfalso; first | omega | contradiction)))
    refine WC.loopI (fun m s => ∃ T n, s = ⟨T, [], []⟩ ∧ T.length = 78 ∧ gt T 0 = l ∧ gt T 3 = .bool true ∧ gt T 4 = x1 ∧ gt T 6 = .int .i64 (n : Nat) ∧ m + n = rows.length) ?_ rows.length _ ⟨_, 0, rfl, rfl, rfl, rfl, rfl, rfl, by omega⟩
    rintro m _ ⟨T, n, rfl, hTl, g0, g3, g4, g6, hm⟩
    obtain ⟨f, rfl⟩ := ex78 hTl
    clear hTl
    replace g0 : f 0 = l := g0
    replace g3 : f 3 = .bool true := g3
    replace g4 : f 4 = x1 := g4
    replace g6 : f 6 = .int .i64 (n : Nat) := g6
    simp only [g0, g3, g4, g6]
    by_cases hn : n < rows.length
    · have h6n := hl.six hn
      have hat := hl.at hn
      have hcut := cut_row (t := tailr rows n) h6n
      have hcr : (rw_ rows n).map (AV.int .i64) = icells (rw_ rows n) := rfl
      rw [hcr] at hat hcut
      have c38 := fun m => s38 (m := m) h6n
      by_cases hs : smallV (rw_ rows n)
      · rw [decide_eq_true hs] at c38
        have c39 := fun m => s39 (m := m) hx1 hHf (by omega) hHbd h6n hs (hin n hn)
        repeat' (first | (refine WO.yes rfl ?_) | (refine WO.opE (by intro; simp (disch := omega) only [go_sem, Zz.look, fillP, Option.bind_eq_bind, List.append_assoc, app_g0, app_g1, app_g2, app_g3, app_g4, app_s0, app_s1, app_s2, app_s3, app_s4, zeros, List.length_append, ov_one0, ov_one1, ov_one2, ov_one3, ov_all2, ov_all3, ov_all4, Nat.reduceAdd, Nat.reduceMul, Nat.reduceSub, Nat.reduceLeDiff, Nat.reduceEqDiff, Int.reduceNeg, Int.reduceAdd, Int.reduceToNat, reduceIte, reduceCtorEq, hat, hcut]; rfl) (by simp only [pt8, pt0, pt1, pt2, pt3, pt4, pt5, pt6, pt7]; rfl) ?_) | (refine WO.opE (by intro; exact ev_lenS (by simp only [go_sem]; first | rfl | assumption)) (by simp only [pt8, pt0, pt1, pt2, pt3, pt4, pt5, pt6, pt7]; rfl) ?_) | (refine WO.specE rfl rfl (c38 _) (by simp only [pt8, pt0, pt1, pt2, pt3, pt4, pt5, pt6, pt7]; rfl) ?_) | (refine WO.specE rfl rfl (c39 _) (by simp only [pt8, pt0, pt1, pt2, pt3, pt4, pt5, pt6, pt7]; rfl) ?_) | (refine WC.seq ?_) | (refine WC.region ?_) | (refine WO.nil ?_) | (simp only [fl1, fl2, fl3, fl4, fl5, fl6, fl7, fl8, fl9, fl10, Nat.reduceBEq]) | (refine WC.no rfl ?_) | (refine WC.skip ?_) | (refine WC.block ?_) | (refine WC.em2 rfl (fun hp => ?_) (fun hp => ?_) <;> try (exfalso; first | omega | contradiction)))
        exact ⟨m - 1, by omega, _, n + 1, rfl, rfl, rfl, rfl, rfl, rfl, by omega⟩
      · rw [decide_eq_false hs] at c38
        repeat' (first | (refine WO.noE rfl (by simp only [pt8, pt0, pt1, pt2, pt3, pt4, pt5, pt6, pt7]; rfl) ?_) | (refine WO.opE (by intro; simp (disch := omega) only [go_sem, Zz.look, fillP, Option.bind_eq_bind, List.append_assoc, app_g0, app_g1, app_g2, app_g3, app_g4, app_s0, app_s1, app_s2, app_s3, app_s4, zeros, List.length_append, ov_one0, ov_one1, ov_one2, ov_one3, ov_all2, ov_all3, ov_all4, Nat.reduceAdd, Nat.reduceMul, Nat.reduceSub, Nat.reduceLeDiff, Nat.reduceEqDiff, Int.reduceNeg, Int.reduceAdd, Int.reduceToNat, reduceIte, reduceCtorEq, hat, hcut]; rfl) (by simp only [pt8, pt0, pt1, pt2, pt3, pt4, pt5, pt6, pt7]; rfl) ?_) | (refine WO.opE (by intro; exact ev_lenS (by simp only [go_sem]; first | rfl | assumption)) (by simp only [pt8, pt0, pt1, pt2, pt3, pt4, pt5, pt6, pt7]; rfl) ?_) | (refine WO.specE rfl rfl (c38 _) (by simp only [pt8, pt0, pt1, pt2, pt3, pt4, pt5, pt6, pt7]; rfl) ?_) | (refine WC.seq ?_) | (refine WC.region ?_) | (refine WO.nil ?_) | (simp only [fl1, fl2, fl3, fl4, fl5, fl6, fl7, fl8, fl9, fl10, Nat.reduceBEq]) | (refine WC.no rfl ?_) | (refine WC.skip ?_) | (refine WC.block ?_) | (refine WC.em2 rfl (fun hp => ?_) (fun hp => ?_) <;> try (exfalso; first | omega | contradiction)))
        exact ⟨m - 1, by omega, _, n + 1, rfl, rfl, rfl, rfl, rfl, rfl, by omega⟩
    · have hne : n = rows.length := by omega
      subst hne
      repeat' (first | (refine WO.yes rfl ?_) | (refine WO.opE (by intro; simp (disch := omega) only [go_sem, Zz.look, fillP, Option.bind_eq_bind, List.append_assoc, app_g0, app_g1, app_g2, app_g3, app_g4, app_s0, app_s1, app_s2, app_s3, app_s4, zeros, List.length_append, ov_one0, ov_one1, ov_one2, ov_one3, ov_all2, ov_all3, ov_all4, Nat.reduceAdd, Nat.reduceMul, Nat.reduceSub, Nat.reduceLeDiff, Nat.reduceEqDiff, Int.reduceNeg, Int.reduceAdd, Int.reduceToNat, reduceIte, reduceCtorEq]; rfl) (by simp only [pt8, pt0, pt1, pt2, pt3, pt4, pt5, pt6, pt7]; rfl) ?_) | (refine WO.opE (by intro; exact ev_lenS (by simp only [go_sem]; first | rfl | assumption)) (by simp only [pt8, pt0, pt1, pt2, pt3, pt4, pt5, pt6, pt7]; rfl) ?_) | (refine WO.specE rfl rfl (c40h _) (by simp only [pt8, pt0, pt1, pt2, pt3, pt4, pt5, pt6, pt7]; rfl) ?_) | (refine WO.specE rfl rfl (c40a _) (by simp only [pt8, pt0, pt1, pt2, pt3, pt4, pt5, pt6, pt7]; rfl) ?_) | (refine WO.specE rfl rfl (c40b _) (by simp only [pt8, pt0, pt1, pt2, pt3, pt4, pt5, pt6, pt7]; rfl) ?_) | (refine WC.seq ?_) | (refine WC.region ?_) | (refine WO.nil ?_) | (simp only [fl1, fl2, fl3, fl4, fl5, fl6, fl7, fl8, fl9, fl10, Nat.reduceBEq]) | (refine WC.exit ?_) | (refine WC.ret ?_) | (refine WC.em2 rfl (fun hp => ?_) (fun hp => ?_) <;> try (exfalso; first | omega | contradiction)))
      all_goals exact ⟨_, rfl, rfl⟩
  · have ec : errC rows = 1 := if_neg hv
    have e1 : hermR rows = [] := if_neg hv
    rw [e1] at hx1
    have l1 := hx1.len
    rw [ec] at c27
    refine WF.fnE rfl (fn_of Try.func4 cir4) (by show 1 ≤ 78; decide) ?_
    unfold ir4; dsimp only [k0, kI, mV, oO, oG]
    simp only [padTo, List.replicate, List.nil_append, List.append_nil, List.cons_append]
    repeat' (first | (refine WO.yes rfl ?_) | (refine WO.opE (by intro; simp (disch := omega) only [go_sem, Zz.look, fillP, Option.bind_eq_bind, List.append_assoc, app_g0, app_g1, app_g2, app_g3, app_g4, app_s0, app_s1, app_s2, app_s3, app_s4, zeros, List.length_append, ov_one0, ov_one1, ov_one2, ov_one3, ov_all2, ov_all3, ov_all4, Nat.reduceAdd, Nat.reduceMul, Nat.reduceSub, Nat.reduceLeDiff, Nat.reduceEqDiff, Int.reduceNeg, Int.reduceAdd, Int.reduceToNat, reduceIte, reduceCtorEq]; rfl) (by simp only [pt8, pt0, pt1, pt2, pt3, pt4, pt5, pt6, pt7]; rfl) ?_) | (refine WO.opE (by intro; exact ev_lenS (by simp only [go_sem]; first | rfl | assumption)) (by simp only [pt8, pt0, pt1, pt2, pt3, pt4, pt5, pt6, pt7]; rfl) ?_) | (refine WO.specE rfl rfl (c24 _) (by simp only [pt8, pt0, pt1, pt2, pt3, pt4, pt5, pt6, pt7]; rfl) ?_) | (refine WO.specE rfl rfl (c27 _) (by simp only [pt8, pt0, pt1, pt2, pt3, pt4, pt5, pt6, pt7]; rfl) ?_) | (refine WC.seq ?_) | (refine WC.region ?_) | (refine WO.nil ?_) | (simp only [fl1, fl2, fl3, fl4, fl5, fl6, fl7, fl8, fl9, fl10, Nat.reduceBEq]) | (refine WC.yes rfl ?_) | (refine WC.ret ?_))
    exact ⟨_, rfl, rfl⟩
end Go.Proofs.Ytnilimjkibimcaa

