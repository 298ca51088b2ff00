import Derived.Test.YtjbdefmhjmkifaaDoorIr11xc10
import Derived.Test.YtjbdefmhjmkifaaDoorL11cg

set_option linter.unusedSimpArgs false
set_option linter.unusedVariables false
namespace Go.Proofs.YtjbdefmhjmkifaaDoor
open Go.Zz
set_option maxRecDepth 100000
set_option maxHeartbeats 4000000
theorem ex39z {T : List AV} (h : T.length = 39) : ∃ f : Nat → AV, T = [f 0, f 1, f 2, f 3, f 4, f 5, f 6, f 7, f 8, f 9, f 10, f 11, f 12, f 13, f 14, f 15, f 16, f 17, f 18, f 19, f 20, f 21, f 22, f 23, f 24, f 25, f 26, f 27, f 28, f 29, f 30, f 31, f 32, f 33, f 34, f 35, f 36, f 37, f 38] := ⟨gt T, by have := list_gts T; rw [h] at this; exact this⟩
theorem lo_min {e : Int} {i : Nat} (h : i < 6) : (if e < 0 then e * LH i else e * LL i) = min (e * LL i) (e * LH i) := by
  obtain ⟨l1, l2, l3⟩ := LL_bnd h
  split
  · rename_i h
    have := Int.mul_le_mul_of_nonpos_left (Int.le_of_lt h) l2
    omega
  · rename_i h
    have := Int.mul_le_mul_of_nonneg_left l2 (Int.not_lt.1 h)
    omega
theorem hi_max {e : Int} {i : Nat} (h : i < 6) : (if e < 0 then e * LL i else e * LH i) = max (e * LL i) (e * LH i) := by
  obtain ⟨l1, l2, l3⟩ := LL_bnd h
  split
  · rename_i h
    have := Int.mul_le_mul_of_nonpos_left (Int.le_of_lt h) l2
    omega
  · rename_i h
    have := Int.mul_le_mul_of_nonneg_left l2 (Int.not_lt.1 h)
    omega
theorem f80 {es : List Int} (hes : es.length = 6) (hs : Small es) : WF C10 (.func 80 [] []) [.agg (es.map (.int .i64))] ⟨[], []⟩ fun y m' => y = .agg [.int .i64 (eLo es 6), .int .i64 (eHi es 6)] := by
  have hb1 := eLo_bnd hs
  have hb2 := eHi_bnd hs
  refine WF.fnE rfl (fn_of Tryd.func80 cir80) (by show 1 ≤ 39; decide) ?_
  unfold ir80
  simp only [padTo, List.replicate, List.nil_append, List.append_nil, List.cons_append]
  repeat' (first | (refine WO.opE (by intro; simp (disch := omega) only [go_sem, zeros, Zz.look, List.append_assoc, List.length_append, ov_one0, ov_one1, ov_one2, ov_one3, ov_one4, ov_one5, ov_all2, ov_all6, Nat.reduceAdd, Nat.reduceMul, Nat.reduceSub, Nat.reduceLeDiff, Nat.reduceEqDiff, Int.reduceNeg, Int.reduceAdd, Int.reduceToNat, reduceIte, reduceCtorEq]; rfl) (by simp only [pt8, pt0, pt1, pt2, pt3, pt4, pt5, pt6, pt7]; rfl) ?_) | (refine WO.opN (by intro; simp (disch := omega) only [go_sem, zeros, Zz.look, List.append_assoc, List.length_append, ov_one0, ov_one1, ov_one2, ov_one3, ov_one4, ov_one5, ov_all2, ov_all6, Nat.reduceAdd, Nat.reduceMul, Nat.reduceSub, Nat.reduceLeDiff, Nat.reduceEqDiff, Int.reduceNeg, Int.reduceAdd, Int.reduceToNat, reduceIte, reduceCtorEq]; rfl) ?_) | (refine WC.seq ?_) | (refine WC.region ?_) | (refine WO.nil ?_) | (simp only [fl1, fl2, fl3, fl4, fl5, fl6, fl7, fl8, fl9, fl10, Nat.reduceBEq]) | (refine WC.block ?_))
  refine WC.loopI (fun m s => ∃ T i, s = ⟨T, [some ⟨0, es.map (.int .i64)⟩, some ⟨0, [.int .i64 0, .int .i64 0]⟩, some ⟨0, [.int .i64 (eLo es i), .int .i64 (eHi es i)]⟩], []⟩ ∧ T.length = 39 ∧ gt T 1 = .pref 0 0 0 ∧ gt T 2 = .pref 1 0 0 ∧ gt T 3 = .pref 2 0 0 ∧ gt T 4 = .int .i64 (i : Nat) ∧ m + i = 6) ?_ 6 _ ⟨_, 0, rfl, rfl, rfl, rfl, rfl, rfl, by omega⟩
  rintro m _ ⟨T, i, rfl, hT, g1, g2, g3, g4, hm⟩
  obtain ⟨f, rfl⟩ := ex39z hT
  clear hT
  replace g1 : f 1 = .pref 0 0 0 := g1
  replace g2 : f 2 = .pref 1 0 0 := g2
  replace g3 : f 3 = .pref 2 0 0 := g3
  replace g4 : f 4 = .int .i64 (i : Nat) := g4
  simp only [g1, g2, g3, g4]
  by_cases hin : i < 6
  · obtain ⟨c1, c2⟩ := hs i hin
    obtain ⟨l1, l2, l3⟩ := LL_bnd hin
    have t1 := term_bnd c1 c2 l1 (by omega)
    have t2 := term_bnd c1 c2 (l := LH i) (by omega) l3
    have b1 := hb1 i (by omega)
    have b2 := hb2 i (by omega)
    have hlt : i < es.length := by omega
    have e1 : eLo es (i + 1) = eLo es i + min (es.getD i 0 * LL i) (es.getD i 0 * LH i) := by rw [eLo, lo_min hin]
    have e2 : eHi es (i + 1) = eHi es i + max (es.getD i 0 * LL i) (es.getD i 0 * LH i) := by rw [eHi, hi_max hin]
    repeat' (first | (refine WO.opE (by intro; simp (disch := omega) only [go_sem, zeros, Zz.look, List.append_assoc, List.length_append, ov_one0, ov_one1, ov_one2, ov_one3, ov_one4, ov_one5, ov_all2, ov_all6, Nat.reduceAdd, Nat.reduceMul, Nat.reduceSub, Nat.reduceLeDiff, Nat.reduceEqDiff, Int.reduceNeg, Int.reduceAdd, Int.reduceToNat, reduceIte, reduceCtorEq, int_at, Nat.mul_one, app_g0, app_g1, app_g2, app_g3, app_g4, app_s0, app_s1, app_s2, app_s3, app_s4]; rfl) (by simp only [pt8, pt0, pt1, pt2, pt3, pt4, pt5, pt6, pt7]; rfl) ?_) | (refine WO.opN (by intro; simp (disch := omega) only [go_sem, zeros, Zz.look, List.append_assoc, List.length_append, ov_one0, ov_one1, ov_one2, ov_one3, ov_one4, ov_one5, ov_all2, ov_all6, Nat.reduceAdd, Nat.reduceMul, Nat.reduceSub, Nat.reduceLeDiff, Nat.reduceEqDiff, Int.reduceNeg, Int.reduceAdd, Int.reduceToNat, reduceIte, reduceCtorEq, int_at, Nat.mul_one, app_g0, app_g1, app_g2, app_g3, app_g4, app_s0, app_s1, app_s2, app_s3, app_s4]; rfl) ?_) | (refine WT.spec rfl rfl (fun V => s85 hin) (by simp only [pt8, pt0, pt1, pt2, pt3, pt4, pt5, pt6, pt7]; rfl) ?_) | (refine WT.spec rfl rfl (fun V => s86 hin) (by simp only [pt8, pt0, pt1, pt2, pt3, pt4, pt5, pt6, pt7]; rfl) ?_) | (refine WC.seq ?_) | (refine WC.region ?_) | (refine WO.nil ?_) | (simp only [fl1, fl2, fl3, fl4, fl5, fl6, fl7, fl8, fl9, fl10, Nat.reduceBEq]) | (refine WC.drawT ?_) | (refine WT.nil ?_) | (refine WT.free rfl (by intro; simp (disch := omega) only [go_sem, zeros, Zz.look, List.append_assoc, List.length_append, ov_one0, ov_one1, ov_one2, ov_one3, ov_one4, ov_one5, ov_all2, ov_all6, Nat.reduceAdd, Nat.reduceMul, Nat.reduceSub, Nat.reduceLeDiff, Nat.reduceEqDiff, Int.reduceNeg, Int.reduceAdd, Int.reduceToNat, reduceIte, reduceCtorEq, int_at, Nat.mul_one, app_g0, app_g1, app_g2, app_g3, app_g4, app_s0, app_s1, app_s2, app_s3, app_s4]; rfl) rfl (by simp only [pt8, pt0, pt1, pt2, pt3, pt4, pt5, pt6, pt7]; rfl) ?_) | (refine WT.big rfl rfl (by intro; simp (disch := omega) only [go_sem, zeros, Zz.look, List.append_assoc, List.length_append, ov_one0, ov_one1, ov_one2, ov_one3, ov_one4, ov_one5, ov_all2, ov_all6, Nat.reduceAdd, Nat.reduceMul, Nat.reduceSub, Nat.reduceLeDiff, Nat.reduceEqDiff, Int.reduceNeg, Int.reduceAdd, Int.reduceToNat, reduceIte, reduceCtorEq, int_at, Nat.mul_one, app_g0, app_g1, app_g2, app_g3, app_g4, app_s0, app_s1, app_s2, app_s3, app_s4]; rfl) (by simp (disch := omega) only [go_sem, zeros, Zz.look, List.append_assoc, List.length_append, ov_one0, ov_one1, ov_one2, ov_one3, ov_one4, ov_one5, ov_all2, ov_all6, Nat.reduceAdd, Nat.reduceMul, Nat.reduceSub, Nat.reduceLeDiff, Nat.reduceEqDiff, Int.reduceNeg, Int.reduceAdd, Int.reduceToNat, reduceIte, reduceCtorEq, int_at, Nat.mul_one, app_g0, app_g1, app_g2, app_g3, app_g4, app_s0, app_s1, app_s2, app_s3, app_s4, touch]; rfl) (by first | exact .inl rfl | exact .inr (apart_nil _) | (right; apply apart_mk; simp only [apartL, List.nil_append, List.cons_append, List.getElem?_cons_succ, List.getElem?_cons_zero, Tch.free, and_true, true_and]; first | done | omega)) (by simp only [pt8, pt0, pt1, pt2, pt3, pt4, pt5, pt6, pt7]; rfl) ?_) | (refine WC.skip ?_) | (refine WC.block ?_) | (refine WC.em2 rfl (fun hp => ?_) (fun hp => ?_) <;> try (exfalso; first | omega | contradiction)))
    exact ⟨m - 1, by omega, _, i + 1, by rw [e1, e2], rfl, rfl, rfl, rfl, rfl, by omega⟩
  · have hi' : i = 6 := by omega
    subst hi'
    repeat' (first | (refine WO.opE (by intro; simp (disch := omega) only [go_sem, zeros, Zz.look, List.append_assoc, List.length_append, ov_one0, ov_one1, ov_one2, ov_one3, ov_one4, ov_one5, ov_all2, ov_all6, Nat.reduceAdd, Nat.reduceMul, Nat.reduceSub, Nat.reduceLeDiff, Nat.reduceEqDiff, Int.reduceNeg, Int.reduceAdd, Int.reduceToNat, reduceIte, reduceCtorEq]; rfl) (by simp only [pt8, pt0, pt1, pt2, pt3, pt4, pt5, pt6, pt7]; rfl) ?_) | (refine WO.opN (by intro; simp (disch := omega) only [go_sem, zeros, Zz.look, List.append_assoc, List.length_append, ov_one0, ov_one1, ov_one2, ov_one3, ov_one4, ov_one5, ov_all2, ov_all6, Nat.reduceAdd, Nat.reduceMul, Nat.reduceSub, Nat.reduceLeDiff, Nat.reduceEqDiff, Int.reduceNeg, Int.reduceAdd, Int.reduceToNat, reduceIte, reduceCtorEq]; rfl) ?_) | (refine WC.seq ?_) | (refine WC.region ?_) | (refine WO.nil ?_) | (simp only [fl1, fl2, fl3, fl4, fl5, fl6, fl7, fl8, fl9, fl10, Nat.reduceBEq]) | (refine WC.no rfl ?_) | (refine WC.exit ?_) | (refine WC.ret ?_))
    exact ⟨_, rfl, rfl⟩
end Go.Proofs.YtjbdefmhjmkifaaDoor

