import Derived.Test.YtnilimjkibimcaaQB
import Derived.Test.YtnilimjkibimcaaPS
set_option linter.unusedSimpArgs false
set_option linter.unusedVariables false

namespace Go.Proofs.Ytnilimjkibimcaa
open Go.Zz
set_option maxRecDepth 100000
set_option maxHeartbeats 8000000
theorem gcd_bd3 {g x : Nat} (hg : g ≤ 1000000000) (hx : x ≤ 1000000000) : Nat.gcd g x ≤ 1000000000 := by
  by_cases h : g = 0
  · subst h; rw [Nat.gcd_zero_left]; exact hx
  · exact Nat.le_trans (Nat.gcd_le_left x (by omega)) hg
theorem divRK_bd3 {rows : List (List Int)} (hv : VM rows) (h6 : Six rows) (k : Nat) : divRK rows k ≤ 1000000000 := by
  refine foldl_ind (I := fun a => a ≤ 1000000000) (by omega) fun a is hi ha => foldl_ind (I := fun a => a ≤ 1000000000) ha fun a js hj ha => gcd_bd3 ha ?_
  obtain ⟨_, _, _, a4, a5⟩ := minor_1 hv h6 (subs_mem.1 hi).1 (subs_mem.1 hj).1
  unfold absI
  split <;> omega
theorem nat_tmod {a b : Nat} (h : b ∣ a) : ((a : Nat) : Int).tmod ((b : Nat) : Int) = 0 := Int.tmod_eq_zero_of_dvd (Int.natCast_dvd_natCast.2 h)
theorem run8 {l : AV} {rows : List (List Int)} (hl : RwL l rows) (hmax : rows.length < 9223372036854775807) : WF E43 (.func 8 [] []) [l] ⟨[], []⟩ fun y m' => y = .bool true := by
  have c24 := fun m => s24 (m := m)
  obtain ⟨x1, hx1, c27⟩ := x27 hl hmax
  obtain ⟨x2, hx2, c32⟩ := x32 hl hmax
  have c27 := fun m => c27 m l (hl.byVal _)
  have c32 := fun m => c32 m l (hl.byVal _)
  by_cases hv : VM rows
  · have ec : errC rows = 0 := if_pos hv
    rw [ec] at c27 c32
    have h6 := hl.sixR.six
    have e1 : hermR rows = hermF rows := if_pos hv
    have e2 : divR rows = divF rows := if_pos hv
    rw [e1] at hx1
    have l1 := hx1.len
    have l2 := IntS.len hx2
    have hr := rank_le (fwd_B hv h6)
    have hH := herm_lat hv h6
    have hHr := rank_herm hv h6
    have h8 := hv.1
    have hdl := div_len hv
    have hHf := hH.hf
    rw [← hH.len] at hHf
    have hdat : ∀ (i : Nat) (hi : i < (divR rows).length), (divR rows)[i] = ((divRK rows (i + 1) : Nat) : Int) := fun i hi => by
      have : (divR rows)[i] = ((divK rows (i + 1) : Nat) : Int) := by simp [e2, divF]
      rw [this, div_eq h8 (by omega) (by omega)]
    obtain ⟨pv1, pv2, pv3⟩ := pivP_all hv h6
    have pv4 := fun i hi => pprod_mono (f := pivP rows) (hermF rows).length pv1 i hi
    have hd1 := fun k (hk : k ≤ rankF rows) => divRK_pos hv h6 hk
    have hd9 := divRK_bd3 hv h6
    have hdn := fun k => divRK_next (rows := rows) k
    have hds := fun k => divRK_smith hv h6 k
    have hd0 : divRK rows 0 = 1 := by
      have h1 : ∀ n, subs n 0 = [[]] := fun n => by cases n <;> rfl
      unfold divRK
      rw [h1]
      show dRow rows 0 0 [] = 1
      unfold dRow
      rw [h1]
      simp [gStep, minorF, absI]
    rw [hdl] at l2
    rw [← hHr] at l1 pv1 pv2 pv3 pv4
    rw [← hHr] at hHf
    generalize hn : rankF rows = n at *
    have hnx1 : n ≤ 6 := by omega
    have hHn : (hermF rows).length = n := hHr.symm
    refine WF.fnE rfl (fn_of Try.func8 cir8) (by show 1 ≤ 139; decide) ?_
    unfold ir8; dsimp only [k0, kI, mV, oO, oG]
    simp only [padTo, List.replicate, List.nil_append, List.append_nil, List.cons_append]
    repeat' (first | (refine WO.yes rfl ?_) | (refine WO.opE (by intro; simp (disch := omega) only [go_sem, Zz.look, fillP, Option.bind_eq_bind, List.append_assoc, app_g0, app_g1, app_g2, app_g3, app_g4, app_s0, app_s1, app_s2, app_s3, app_s4, zeros, List.length_append, ov_one0, ov_one1, ov_one2, ov_one3, ov_all2, ov_all3, ov_all4, Nat.reduceAdd, Nat.reduceMul, Nat.reduceSub, Nat.reduceLeDiff, Nat.reduceEqDiff, Int.reduceNeg, Int.reduceAdd, Int.reduceToNat, reduceIte, reduceCtorEq]; rfl) (by simp only [pt8, pt0, pt1, pt2, pt3, pt4, pt5, pt6, pt7]; rfl) ?_) | (refine WO.opE (by intro; exact ev_lenS (by simp only [go_sem]; first | rfl | assumption)) (by simp only [pt8, pt0, pt1, pt2, pt3, pt4, pt5, pt6, pt7]; rfl) ?_) | (refine WO.specE rfl rfl (c24 _) (by simp only [pt8, pt0, pt1, pt2, pt3, pt4, pt5, pt6, pt7]; rfl) ?_) | (refine WO.specE rfl rfl (c27 _) (by simp only [pt8, pt0, pt1, pt2, pt3, pt4, pt5, pt6, pt7]; rfl) ?_) | (refine WO.specE rfl rfl (c32 _) (by simp only [pt8, pt0, pt1, pt2, pt3, pt4, pt5, pt6, pt7]; rfl) ?_) | (refine WC.seq ?_) | (refine WC.region ?_) | (refine WO.nil ?_) | (simp only [fl1, fl2, fl3, fl4, fl5, fl6, fl7, fl8, fl9, fl10, Nat.reduceBEq]) | (refine WC.no rfl ?_) | (refine WC.skip ?_) | (refine WC.block ?_))
    refine WC.loopI (fun m s => ∃ T i, s = ⟨T, [], []⟩ ∧ T.length = 139 ∧ gt T 0 = l ∧ gt T 3 = .bool true ∧ gt T 4 = x2 ∧ gt T 6 = x1 ∧ gt T 8 = .int .i64 (pprodF (pivP rows) i) ∧ gt T 9 = .int .i64 (i : Nat) ∧ m + i = n) ?_ n _ ⟨_, 0, rfl, rfl, rfl, rfl, rfl, rfl, rfl, rfl, by omega⟩
    rintro m _ ⟨T, i, rfl, hTl, g0, g3, g4, g6, g8, g9, hm⟩
    obtain ⟨f, rfl⟩ := ex139 hTl
    clear hTl
    replace g0 : f 0 = l := g0
    replace g3 : f 3 = .bool true := g3
    replace g4 : f 4 = x2 := g4
    replace g6 : f 6 = x1 := g6
    replace g8 : f 8 = .int .i64 (pprodF (pivP rows) i) := g8
    replace g9 : f 9 = .int .i64 (i : Nat) := g9
    simp only [g0, g3, g4, g6, g8, g9]
    by_cases hi : i < n
    · have g6 := hx1.six (i := i) (by omega)
      have hat := hx1.at (i := i) (by omega)
      have hcut := cut_row (t := tailr (hermF rows) i) g6
      have hcr : (rw_ (hermF rows) i).map (AV.int .i64) = icells (rw_ (hermF rows) i) := rfl
      rw [hcr] at hat hcut
      have c43 := fun m => s43 (m := m) g6
      rw [piv_hf hHf hi] at c43
      have hp6 := hHf.plt i hi
      have hdr := dr_row (t := tailr (hermF rows) i) (r := rw_ (hermF rows) i) (j := (fwdF rows).js.getD i 0) (by omega)
      rw [hcr] at hdr
      have hpe : (rw_ (hermF rows) i).getD ((fwdF rows).js.getD i 0) 0 = pivP rows i := rfl
      rw [hpe] at hdr
      have hps : pprodF (pivP rows) (i + 1) = pprodF (pivP rows) i * pivP rows i := rfl
      obtain ⟨q1, _⟩ := pv4 i (by omega)
      obtain ⟨q2, _⟩ := pv4 (i + 1) (by omega)
      have q3 := (pv4 n (Nat.le_refl _)).2 (i + 1) (by omega)
      have q4 := (pv4 n (Nat.le_refl _)).2 i (by omega)
      rw [hps] at q2 q3
      have da := IntS.at hx2 (i := i) (by omega)
      rw [hdat i (by omega)] at da
      have hB1 := hd1 (i + 1) (by omega)
      have hB9 := hd9 (i + 1)
      have hA1 := hd1 i (by omega)
      have hA9 := hd9 i
      have eBA := nat_tmod (hdn i)
      have hBB : ((divRK rows (i + 1) : Nat) : Int) * ((divRK rows (i + 1) : Nat) : Int) ≤ 1000000000 * 1000000000 := Int.mul_le_mul (by omega) (by omega) (by omega) (by omega)
      have hBB1 : 0 < ((divRK rows (i + 1) : Nat) : Int) * ((divRK rows (i + 1) : Nat) : Int) := Int.mul_pos (by omega) (by omega)
      have hA0 : i = 0 → ((divRK rows i : Nat) : Int) = 1 := fun h => by rw [h, hd0]; rfl
      by_cases hi1 : i + 1 < n
      · have db := IntS.at hx2 (i := i + 1) (by omega)
        rw [hdat (i + 1) (by omega)] at db
        have hcast : (((i + 1 : Nat) : Int)) = (i : Int) + 1 := by omega
        rw [hcast] at db
        have hC1 := hd1 (i + 1 + 1) (by omega)
        have hC9 := hd9 (i + 1 + 1)
        have eS : (((divRK rows i : Nat) : Int) * ((divRK rows (i + 1 + 1) : Nat) : Int)).tmod (((divRK rows (i + 1) : Nat) : Int) * ((divRK rows (i + 1) : Nat) : Int)) = 0 := by
          have := nat_tmod (hds i)
          rw [Int.natCast_mul, Int.natCast_mul] at this
          exact this
        have hAC : ((divRK rows i : Nat) : Int) * ((divRK rows (i + 1 + 1) : Nat) : Int) ≤ 1000000000 * 1000000000 := Int.mul_le_mul (by omega) (by omega) (by omega) (by omega)
        have hAC1 : 0 < ((divRK rows i : Nat) : Int) * ((divRK rows (i + 1 + 1) : Nat) : Int) := Int.mul_pos (by omega) (by omega)
        have hBn : ¬ ((divRK rows (i + 1) : Nat) : Int) * ((divRK rows (i + 1) : Nat) : Int) = 0 := by omega
        by_cases hi0 : i = 0
        · rw [hA0 hi0] at eBA eS hAC hAC1
          have hi0' : ¬ ((i : Nat) : Int) > 0 := by omega
          have h10 : ¬ (1 : Int) = 0 := by decide
          obtain ⟨hIB1, hIB2⟩ : 1 ≤ ((divRK rows (i + 1) : Nat) : Int) ∧ ((divRK rows (i + 1) : Nat) : Int) ≤ 1000000000 := by omega
          generalize ((divRK rows (i + 1) : Nat) : Int) = B at *
          obtain ⟨hIC1, hIC2⟩ : 1 ≤ ((divRK rows (i + 1 + 1) : Nat) : Int) ∧ ((divRK rows (i + 1 + 1) : Nat) : Int) ≤ 1000000000 := by omega
          generalize ((divRK rows (i + 1 + 1) : Nat) : Int) = C at *
          repeat' (first | (refine WO.yes rfl ?_) | (refine WO.opE (by intro; simp (disch := omega) only [go_sem, Zz.look, fillP, Option.bind_eq_bind, List.append_assoc, app_g0, app_g1, app_g2, app_g3, app_g4, app_s0, app_s1, app_s2, app_s3, app_s4, zeros, List.length_append, ov_one0, ov_one1, ov_one2, ov_one3, ov_all2, ov_all3, ov_all4, Nat.reduceAdd, Nat.reduceMul, Nat.reduceSub, Nat.reduceLeDiff, Nat.reduceEqDiff, Int.reduceNeg, Int.reduceAdd, Int.reduceToNat, reduceIte, reduceCtorEq, hat, hcut, hdr, da, db, eBA, eS, hBn, h10, if_false, Nat.mul_one, Nat.zero_add]; rfl) (by simp only [pt8, pt0, pt1, pt2, pt3, pt4, pt5, pt6, pt7]; rfl) ?_) | (refine WO.opE (by intro; exact ev_lenS (by simp only [go_sem]; first | rfl | assumption)) (by simp only [pt8, pt0, pt1, pt2, pt3, pt4, pt5, pt6, pt7]; rfl) ?_) | (refine WO.specE rfl rfl (c43 _) (by simp only [pt8, pt0, pt1, pt2, pt3, pt4, pt5, pt6, pt7]; rfl) ?_) | (refine WC.seq ?_) | (refine WC.region ?_) | (refine WO.nil ?_) | (simp only [fl1, fl2, fl3, fl4, fl5, fl6, fl7, fl8, fl9, fl10, Nat.reduceBEq]) | (refine WC.calm rfl ?_) | (refine WC.skip ?_) | (refine WC.block ?_) | (refine WO.em2 rfl (by intro hp; simp only [hp, decide_true]; rfl) (by intro hp; simp only [hp, decide_false]; rfl) (fun hp => ?_) (fun hp => ?_) <;> try (exfalso; first | omega | contradiction)) | (refine WC.em2 rfl (fun hp => ?_) (fun hp => ?_) <;> try (exfalso; first | omega | contradiction)))
          all_goals exact ⟨m - 1, by omega, _, i + 1, rfl, rfl, rfl, rfl, rfl, rfl, rfl, rfl, by omega⟩
        · have hkm : ((i : Nat) : Int) - 1 = ((i - 1 : Nat) : Int) := by omega
          have dc := IntS.at hx2 (i := i - 1) (by omega)
          rw [hdat (i - 1) (by omega), show i - 1 + 1 = i by omega] at dc
          have hAn : ¬ ((divRK rows i : Nat) : Int) = 0 := by omega
          obtain ⟨hIA1, hIA2⟩ : 1 ≤ ((divRK rows i : Nat) : Int) ∧ ((divRK rows i : Nat) : Int) ≤ 1000000000 := by omega
          generalize ((divRK rows i : Nat) : Int) = A at *
          obtain ⟨hIB1, hIB2⟩ : 1 ≤ ((divRK rows (i + 1) : Nat) : Int) ∧ ((divRK rows (i + 1) : Nat) : Int) ≤ 1000000000 := by omega
          generalize ((divRK rows (i + 1) : Nat) : Int) = B at *
          obtain ⟨hIC1, hIC2⟩ : 1 ≤ ((divRK rows (i + 1 + 1) : Nat) : Int) ∧ ((divRK rows (i + 1 + 1) : Nat) : Int) ≤ 1000000000 := by omega
          generalize ((divRK rows (i + 1 + 1) : Nat) : Int) = C at *
          repeat' (first | (refine WO.yes rfl ?_) | (refine WO.opE (by intro; simp (disch := omega) only [go_sem, Zz.look, fillP, Option.bind_eq_bind, List.append_assoc, app_g0, app_g1, app_g2, app_g3, app_g4, app_s0, app_s1, app_s2, app_s3, app_s4, zeros, List.length_append, ov_one0, ov_one1, ov_one2, ov_one3, ov_all2, ov_all3, ov_all4, Nat.reduceAdd, Nat.reduceMul, Nat.reduceSub, Nat.reduceLeDiff, Nat.reduceEqDiff, Int.reduceNeg, Int.reduceAdd, Int.reduceToNat, reduceIte, reduceCtorEq, hat, hcut, hdr, da, db, dc, hkm, eBA, eS, hBn, hAn, if_false, Nat.mul_one, Nat.zero_add]; rfl) (by simp only [pt8, pt0, pt1, pt2, pt3, pt4, pt5, pt6, pt7]; rfl) ?_) | (refine WO.opE (by intro; exact ev_lenS (by simp only [go_sem]; first | rfl | assumption)) (by simp only [pt8, pt0, pt1, pt2, pt3, pt4, pt5, pt6, pt7]; rfl) ?_) | (refine WO.specE rfl rfl (c43 _) (by simp only [pt8, pt0, pt1, pt2, pt3, pt4, pt5, pt6, pt7]; rfl) ?_) | (refine WC.seq ?_) | (refine WC.region ?_) | (refine WO.nil ?_) | (simp only [fl1, fl2, fl3, fl4, fl5, fl6, fl7, fl8, fl9, fl10, Nat.reduceBEq]) | (refine WC.calm rfl ?_) | (refine WC.skip ?_) | (refine WC.block ?_) | (refine WO.em2 rfl (by intro hp; simp only [hp, decide_true]; rfl) (by intro hp; simp only [hp, decide_false]; rfl) (fun hp => ?_) (fun hp => ?_) <;> try (exfalso; first | omega | contradiction)) | (refine WC.em2 rfl (fun hp => ?_) (fun hp => ?_) <;> try (exfalso; first | omega | contradiction)))
          all_goals exact ⟨m - 1, by omega, _, i + 1, rfl, rfl, rfl, rfl, rfl, rfl, rfl, rfl, by omega⟩
      · by_cases hi0 : i = 0
        · rw [hA0 hi0] at eBA
          have hi0' : ¬ ((i : Nat) : Int) > 0 := by omega
          have h10 : ¬ (1 : Int) = 0 := by decide
          obtain ⟨hIB1, hIB2⟩ : 1 ≤ ((divRK rows (i + 1) : Nat) : Int) ∧ ((divRK rows (i + 1) : Nat) : Int) ≤ 1000000000 := by omega
          generalize ((divRK rows (i + 1) : Nat) : Int) = B at *
          repeat' (first | (refine WO.yes rfl ?_) | (refine WO.opE (by intro; simp (disch := omega) only [go_sem, Zz.look, fillP, Option.bind_eq_bind, List.append_assoc, app_g0, app_g1, app_g2, app_g3, app_g4, app_s0, app_s1, app_s2, app_s3, app_s4, zeros, List.length_append, ov_one0, ov_one1, ov_one2, ov_one3, ov_all2, ov_all3, ov_all4, Nat.reduceAdd, Nat.reduceMul, Nat.reduceSub, Nat.reduceLeDiff, Nat.reduceEqDiff, Int.reduceNeg, Int.reduceAdd, Int.reduceToNat, reduceIte, reduceCtorEq, hat, hcut, hdr, da, eBA, h10, if_false, Nat.mul_one, Nat.zero_add]; rfl) (by simp only [pt8, pt0, pt1, pt2, pt3, pt4, pt5, pt6, pt7]; rfl) ?_) | (refine WO.opE (by intro; exact ev_lenS (by simp only [go_sem]; first | rfl | assumption)) (by simp only [pt8, pt0, pt1, pt2, pt3, pt4, pt5, pt6, pt7]; rfl) ?_) | (refine WO.specE rfl rfl (c43 _) (by simp only [pt8, pt0, pt1, pt2, pt3, pt4, pt5, pt6, pt7]; rfl) ?_) | (refine WC.seq ?_) | (refine WC.region ?_) | (refine WO.nil ?_) | (simp only [fl1, fl2, fl3, fl4, fl5, fl6, fl7, fl8, fl9, fl10, Nat.reduceBEq]) | (refine WC.skip ?_) | (refine WC.block ?_) | (refine WO.em2 rfl (by intro hp; simp only [hp, decide_true]; rfl) (by intro hp; simp only [hp, decide_false]; rfl) (fun hp => ?_) (fun hp => ?_) <;> try (exfalso; first | omega | contradiction)) | (refine WC.em2 rfl (fun hp => ?_) (fun hp => ?_) <;> try (exfalso; first | omega | contradiction)))
          all_goals exact ⟨m - 1, by omega, _, i + 1, rfl, rfl, rfl, rfl, rfl, rfl, rfl, rfl, by omega⟩
        · have hkm : ((i : Nat) : Int) - 1 = ((i - 1 : Nat) : Int) := by omega
          have dc := IntS.at hx2 (i := i - 1) (by omega)
          rw [hdat (i - 1) (by omega), show i - 1 + 1 = i by omega] at dc
          have hAn : ¬ ((divRK rows i : Nat) : Int) = 0 := by omega
          obtain ⟨hIA1, hIA2⟩ : 1 ≤ ((divRK rows i : Nat) : Int) ∧ ((divRK rows i : Nat) : Int) ≤ 1000000000 := by omega
          generalize ((divRK rows i : Nat) : Int) = A at *
          obtain ⟨hIB1, hIB2⟩ : 1 ≤ ((divRK rows (i + 1) : Nat) : Int) ∧ ((divRK rows (i + 1) : Nat) : Int) ≤ 1000000000 := by omega
          generalize ((divRK rows (i + 1) : Nat) : Int) = B at *
          repeat' (first | (refine WO.yes rfl ?_) | (refine WO.opE (by intro; simp (disch := omega) only [go_sem, Zz.look, fillP, Option.bind_eq_bind, List.append_assoc, app_g0, app_g1, app_g2, app_g3, app_g4, app_s0, app_s1, app_s2, app_s3, app_s4, zeros, List.length_append, ov_one0, ov_one1, ov_one2, ov_one3, ov_all2, ov_all3, ov_all4, Nat.reduceAdd, Nat.reduceMul, Nat.reduceSub, Nat.reduceLeDiff, Nat.reduceEqDiff, Int.reduceNeg, Int.reduceAdd, Int.reduceToNat, reduceIte, reduceCtorEq, hat, hcut, hdr, da, dc, hkm, eBA, hAn, if_false, Nat.mul_one, Nat.zero_add]; rfl) (by simp only [pt8, pt0, pt1, pt2, pt3, pt4, pt5, pt6, pt7]; rfl) ?_) | (refine WO.opE (by intro; exact ev_lenS (by simp only [go_sem]; first | rfl | assumption)) (by simp only [pt8, pt0, pt1, pt2, pt3, pt4, pt5, pt6, pt7]; rfl) ?_) | (refine WO.specE rfl rfl (c43 _) (by simp only [pt8, pt0, pt1, pt2, pt3, pt4, pt5, pt6, pt7]; rfl) ?_) | (refine WC.seq ?_) | (refine WC.region ?_) | (refine WO.nil ?_) | (simp only [fl1, fl2, fl3, fl4, fl5, fl6, fl7, fl8, fl9, fl10, Nat.reduceBEq]) | (refine WC.skip ?_) | (refine WC.block ?_) | (refine WO.em2 rfl (by intro hp; simp only [hp, decide_true]; rfl) (by intro hp; simp only [hp, decide_false]; rfl) (fun hp => ?_) (fun hp => ?_) <;> try (exfalso; first | omega | contradiction)) | (refine WC.em2 rfl (fun hp => ?_) (fun hp => ?_) <;> try (exfalso; first | omega | contradiction)))
          all_goals exact ⟨m - 1, by omega, _, i + 1, rfl, rfl, rfl, rfl, rfl, rfl, rfl, rfl, by omega⟩
    · have hie : i = n := by omega
      by_cases hn0 : n = 0
      · have hn0' : ((n : Nat) : Int) = 0 := by omega
        repeat' (first | (refine WO.yes rfl ?_) | (refine WO.noE rfl (by simp only [pt8, pt0, pt1, pt2, pt3, pt4, pt5, pt6, pt7]; rfl) ?_) | (refine WO.opE (by intro; simp (disch := omega) only [go_sem, Zz.look, fillP, Option.bind_eq_bind, List.append_assoc, app_g0, app_g1, app_g2, app_g3, app_g4, app_s0, app_s1, app_s2, app_s3, app_s4, zeros, List.length_append, ov_one0, ov_one1, ov_one2, ov_one3, ov_all2, ov_all3, ov_all4, Nat.reduceAdd, Nat.reduceMul, Nat.reduceSub, Nat.reduceLeDiff, Nat.reduceEqDiff, Int.reduceNeg, Int.reduceAdd, Int.reduceToNat, reduceIte, reduceCtorEq]; rfl) (by simp only [pt8, pt0, pt1, pt2, pt3, pt4, pt5, pt6, pt7]; rfl) ?_) | (refine WO.opE (by intro; exact ev_lenS (by simp only [go_sem]; first | rfl | assumption)) (by simp only [pt8, pt0, pt1, pt2, pt3, pt4, pt5, pt6, pt7]; rfl) ?_) | (refine WC.seq ?_) | (refine WC.region ?_) | (refine WO.nil ?_) | (simp only [fl1, fl2, fl3, fl4, fl5, fl6, fl7, fl8, fl9, fl10, Nat.reduceBEq]) | (refine WC.exit ?_) | (refine WC.ret ?_) | (refine WO.em2 rfl (by intro hp; simp only [hp, decide_true]; rfl) (by intro hp; simp only [hp, decide_false]; rfl) (fun hp => ?_) (fun hp => ?_) <;> try (exfalso; first | omega | contradiction)) | (refine WC.em2 rfl (fun hp => ?_) (fun hp => ?_) <;> try (exfalso; first | omega | contradiction)))
        all_goals exact ⟨_, rfl, rfl⟩
      · have hkm : ((n : Nat) : Int) - 1 = ((n - 1 : Nat) : Int) := by omega
        have dc := IntS.at hx2 (i := n - 1) (by omega)
        rw [hdat (n - 1) (by omega), show n - 1 + 1 = n by omega] at dc
        have hdn1 := hd1 n (Nat.le_refl _)
        have hdn9 := hd9 n
        obtain ⟨q1, _⟩ := pv4 n (by omega)
        have eP : (pprodF (pivP rows) n).tmod ((divRK rows n : Nat) : Int) = 0 := Int.tmod_eq_zero_of_dvd pv3
        have hAn : ¬ ((divRK rows n : Nat) : Int) = 0 := by omega
        subst hie
        obtain ⟨hIA1, hIA2⟩ : 1 ≤ ((divRK rows i : Nat) : Int) ∧ ((divRK rows i : Nat) : Int) ≤ 1000000000 := by omega
        generalize ((divRK rows i : Nat) : Int) = A at *
        generalize pprodF (pivP rows) i = P at *
        repeat' (first | (refine WO.yes rfl ?_) | (refine WO.opE (by intro; simp (disch := omega) only [go_sem, Zz.look, fillP, Option.bind_eq_bind, List.append_assoc, app_g0, app_g1, app_g2, app_g3, app_g4, app_s0, app_s1, app_s2, app_s3, app_s4, zeros, List.length_append, ov_one0, ov_one1, ov_one2, ov_one3, ov_all2, ov_all3, ov_all4, Nat.reduceAdd, Nat.reduceMul, Nat.reduceSub, Nat.reduceLeDiff, Nat.reduceEqDiff, Int.reduceNeg, Int.reduceAdd, Int.reduceToNat, reduceIte, reduceCtorEq, dc, hkm, eP, hAn, if_false, Nat.mul_one]; rfl) (by simp only [pt8, pt0, pt1, pt2, pt3, pt4, pt5, pt6, pt7]; rfl) ?_) | (refine WO.opE (by intro; exact ev_lenS (by simp only [go_sem]; first | rfl | assumption)) (by simp only [pt8, pt0, pt1, pt2, pt3, pt4, pt5, pt6, pt7]; rfl) ?_) | (refine WC.seq ?_) | (refine WC.region ?_) | (refine WO.nil ?_) | (simp only [fl1, fl2, fl3, fl4, fl5, fl6, fl7, fl8, fl9, fl10, Nat.reduceBEq]) | (refine WC.exit ?_) | (refine WC.ret ?_) | (refine WO.em2 rfl (by intro hp; simp only [hp, decide_true]; rfl) (by intro hp; simp only [hp, decide_false]; rfl) (fun hp => ?_) (fun hp => ?_) <;> try (exfalso; first | omega | contradiction)) | (refine WC.em2 rfl (fun hp => ?_) (fun hp => ?_) <;> try (exfalso; first | omega | contradiction)))
        all_goals exact ⟨_, rfl, rfl⟩
  · have ec : errC rows = 1 := if_neg hv
    rw [ec] at c27 c32
    refine WF.fnE rfl (fn_of Try.func8 cir8) (by show 1 ≤ 139; decide) ?_
    unfold ir8; dsimp only [k0, kI, mV, oO, oG]
    simp only [padTo, List.replicate, List.nil_append, List.append_nil, List.cons_append]
    repeat' (first | (refine WO.yes rfl ?_) | (refine WO.opE (by intro; simp (disch := omega) only [go_sem, Zz.look, fillP, Option.bind_eq_bind, List.append_assoc, app_g0, app_g1, app_g2, app_g3, app_g4, app_s0, app_s1, app_s2, app_s3, app_s4, zeros, List.length_append, ov_one0, ov_one1, ov_one2, ov_one3, ov_all2, ov_all3, ov_all4, Nat.reduceAdd, Nat.reduceMul, Nat.reduceSub, Nat.reduceLeDiff, Nat.reduceEqDiff, Int.reduceNeg, Int.reduceAdd, Int.reduceToNat, reduceIte, reduceCtorEq]; rfl) (by simp only [pt8, pt0, pt1, pt2, pt3, pt4, pt5, pt6, pt7]; rfl) ?_) | (refine WO.specE rfl rfl (c24 _) (by simp only [pt8, pt0, pt1, pt2, pt3, pt4, pt5, pt6, pt7]; rfl) ?_) | (refine WO.specE rfl rfl (c27 _) (by simp only [pt8, pt0, pt1, pt2, pt3, pt4, pt5, pt6, pt7]; rfl) ?_) | (refine WO.specE rfl rfl (c32 _) (by simp only [pt8, pt0, pt1, pt2, pt3, pt4, pt5, pt6, pt7]; rfl) ?_) | (refine WC.seq ?_) | (refine WC.region ?_) | (refine WO.nil ?_) | (simp only [fl1, fl2, fl3, fl4, fl5, fl6, fl7, fl8, fl9, fl10, Nat.reduceBEq]) | (refine WC.yes rfl ?_) | (refine WC.ret ?_))
    exact ⟨_, rfl, rfl⟩
end Go.Proofs.Ytnilimjkibimcaa

