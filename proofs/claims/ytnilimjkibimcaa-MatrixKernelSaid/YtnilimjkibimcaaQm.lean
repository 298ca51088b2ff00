import Derived.Test.YtnilimjkibimcaaQk
import Derived.Test.YtnilimjkibimcaaPS
set_option linter.unusedSimpArgs false
set_option linter.unusedVariables false

namespace Go.Proofs.Ytnilimjkibimcaa
open Go.Zz
set_option maxRecDepth 100000
set_option maxHeartbeats 8000000
def prodF (a b : List Int) : Int := psumF (fun j => a.getD j 0 * b.getD j 0) 6
theorem f42 {a b : List Int} (ha : a.length = 6) (hb : b.length = 6) : WF D4 (.func 42 [] []) [.agg (icells a), .agg (icells b)] ⟨[], []⟩ fun y m' => ∃ r, y = .int .i64 r ∧ (∃ t, r = prodF a b + 18446744073709551616 * t) ∧ -9223372036854775808 ≤ r ∧ r ≤ 9223372036854775807 := by
  have hla : (icells a).length = 6 := by rw [icells_len, ha]
  have hlb : (icells b).length = 6 := by rw [icells_len, hb]
  refine WF.fnE rfl (fn_of Try.func42 cir42) (by show 2 ≤ 21; decide) ?_
  unfold ir42; dsimp only [k0, kI, mV, oO, oG]
  simp only [padTo, List.replicate, List.nil_append, List.append_nil, List.cons_append]
  repeat' (first | (refine WO.opE (by intro; simp (disch := omega) only [go_sem, fillP, Option.bind_eq_bind, List.append_assoc, app_g0, app_g1, app_g2, app_g3, app_g4, app_s0, app_s1, app_s2, app_s3, app_s4, zeros, List.length_append, ov_one0, ov_one1, ov_one2, ov_one3, ov_all2, ov_all3, ov_all4, Nat.reduceAdd, Nat.reduceMul, Nat.reduceSub, Nat.reduceLeDiff, Nat.reduceEqDiff, Int.reduceNeg, Int.reduceAdd, Int.reduceToNat, reduceIte, reduceCtorEq, hla, hlb]; rfl) (by simp only [pt8, pt0, pt1, pt2, pt3, pt4, pt5, pt6, pt7]; rfl) ?_) | (refine WC.seq ?_) | (refine WC.region ?_) | (refine WO.nil ?_) | (simp only [fl1, fl2, fl3, fl4, fl5, fl6, fl7, fl8, fl9, fl10, Nat.reduceBEq]) | (refine WC.block ?_))
  refine WC.loopI (fun m s => ∃ T j S0, s = ⟨T, [some ⟨0, icells a⟩, some ⟨0, icells b⟩], []⟩ ∧ T.length = 21 ∧ gt T 2 = .pref 0 0 0 ∧ gt T 3 = .pref 1 0 0 ∧ gt T 5 = .int .i64 S0 ∧ gt T 6 = .int .i64 (j : Nat) ∧ m + j = 6 ∧ (∃ t, S0 = psumF (fun j => a.getD j 0 * b.getD j 0) j + 18446744073709551616 * t) ∧ -9223372036854775808 ≤ S0 ∧ S0 ≤ 9223372036854775807) ?_ 6 _ ⟨_, 0, 0, rfl, rfl, rfl, rfl, rfl, rfl, by omega, ⟨0, rfl⟩, by decide, by decide⟩
  rintro m _ ⟨T, j, S0, rfl, hT, g2, g3, g5, g6, hm, ⟨t0, ht0⟩, hs1, hs2⟩
  obtain ⟨f, rfl⟩ := ex21 hT
  clear hT
  replace g2 : f 2 = .pref 0 0 0 := g2
  replace g3 : f 3 = .pref 1 0 0 := g3
  replace g5 : f 5 = .int .i64 S0 := g5
  replace g6 : f 6 = .int .i64 (j : Nat) := g6
  simp only [g2, g3, g5, g6]
  by_cases hj : j < 6
  · have hata := icells_at (r := a) (j := j) (by omega)
    have hatb := icells_at (r := b) (j := j) (by omega)
    repeat' (first | (refine WO.opE (by intro; simp (disch := omega) only [go_sem, Zz.look, fillP, Option.bind_eq_bind, List.append_assoc, app_g0, app_g1, app_g2, app_g3, app_g4, app_s0, app_s1, app_s2, app_s3, app_s4, zeros, List.length_append, ov_one0, ov_one1, ov_one2, ov_one3, ov_all2, ov_all3, ov_all4, Nat.reduceAdd, Nat.reduceMul, Nat.reduceSub, Nat.reduceLeDiff, Nat.reduceEqDiff, Int.reduceNeg, Int.reduceAdd, Int.reduceToNat, reduceIte, reduceCtorEq, hata, hatb, Nat.mul_one, Nat.zero_add]; rfl) (by simp only [pt8, pt0, pt1, pt2, pt3, pt4, pt5, pt6, pt7]; rfl) ?_) | (refine WC.seq ?_) | (refine WC.region ?_) | (refine WO.nil ?_) | (simp only [fl1, fl2, fl3, fl4, fl5, fl6, fl7, fl8, fl9, fl10, Nat.reduceBEq]) | (refine WC.calm rfl ?_) | (refine WC.skip ?_) | (refine WC.block ?_) | (refine WC.em2 rfl (fun hp => ?_) (fun hp => ?_) <;> try (exfalso; first | omega | contradiction)))
    obtain ⟨⟨t2, ht2⟩, _, _⟩ := wrapI (a.getD j 0 * b.getD j 0)
    obtain ⟨⟨t3, ht3⟩, hr3, hr4⟩ := wrapI (S0 + IntKind.wrap .i64 (a.getD j 0 * b.getD j 0))
    have hnx : psumF (fun j => a.getD j 0 * b.getD j 0) (j + 1) = psumF (fun j => a.getD j 0 * b.getD j 0) j + a.getD j 0 * b.getD j 0 := rfl
    exact ⟨m - 1, by omega, _, j + 1, _, rfl, rfl, rfl, rfl, rfl, rfl, by omega, ⟨t0 + t2 + t3, by rw [ht3, ht2, ht0, hnx]; omega⟩, hr3, hr4⟩
  · have hje : j = 6 := by omega
    subst hje
    repeat' (first | (refine WO.opE (by intro; simp (disch := omega) only [go_sem, fillP, Option.bind_eq_bind, List.append_assoc, app_g0, app_g1, app_g2, app_g3, app_g4, app_s0, app_s1, app_s2, app_s3, app_s4, zeros, List.length_append, ov_one0, ov_one1, ov_one2, ov_one3, ov_all2, ov_all3, ov_all4, Nat.reduceAdd, Nat.reduceMul, Nat.reduceSub, Nat.reduceLeDiff, Nat.reduceEqDiff, Int.reduceNeg, Int.reduceAdd, Int.reduceToNat, reduceIte, reduceCtorEq]; rfl) (by simp only [pt8, pt0, pt1, pt2, pt3, pt4, pt5, pt6, pt7]; rfl) ?_) | (refine WC.seq ?_) | (refine WC.region ?_) | (refine WO.nil ?_) | (simp only [fl1, fl2, fl3, fl4, fl5, fl6, fl7, fl8, fl9, fl10, Nat.reduceBEq]) | (refine WC.no rfl ?_) | (refine WC.exit ?_) | (refine WC.ret ?_))
    exact ⟨_, rfl, S0, rfl, ⟨t0, ht0⟩, hs1, hs2⟩
theorem s42 {a b : List Int} (ha : a.length = 6) (hb : b.length = 6) (h : -9000000000000000000 ≤ prodF a b ∧ prodF a b ≤ 9000000000000000000) {m : Mem} : borrowE D4 42 [.agg (icells a), .agg (icells b)] m = some (.int .i64 (prodF a b), m) :=
  borrowE_of (pures_cons (pure_icells a) (pures_cons (pure_icells b) rfl)) ((f42 ha hb).mono fun y m' h' => by
    obtain ⟨r, rfl, ⟨t, ht⟩, h1, h2⟩ := h'
    have : r = prodF a b := by omega
    rw [this]; rfl)
noncomputable def D5 : Env := D4.put 42 (borrowE D4 42)
theorem D5_ok : EnvOk Try.prog D5 := Env.put_ok D4_ok (borrowE_ok D4_ok (callable Try.func42 (by kernel_rfl)))
theorem small_prod {a b : List Int} (ha : smallV a) (hb : smallV b) : -9000000000000000000 ≤ prodF a b ∧ prodF a b ≤ 9000000000000000000 := by
  have := psum_bd (f := fun j => a.getD j 0 * b.getD j 0) (C := 1000000) (n := 6) (by decide) (Nat.le_refl _) fun j hj => by
    obtain ⟨a1, a2⟩ := ha j hj
    obtain ⟨b1, b2⟩ := hb j hj
    have h1 := Int.mul_nonneg (show 0 ≤ 1000 - a.getD j 0 by omega) (show 0 ≤ 1000 - b.getD j 0 by omega)
    have h2 := Int.mul_nonneg (show 0 ≤ 1000 + a.getD j 0 by omega) (show 0 ≤ 1000 + b.getD j 0 by omega)
    have h3 := Int.mul_nonneg (show 0 ≤ 1000 - a.getD j 0 by omega) (show 0 ≤ 1000 + b.getD j 0 by omega)
    have h4 := Int.mul_nonneg (show 0 ≤ 1000 + a.getD j 0 by omega) (show 0 ≤ 1000 - b.getD j 0 by omega)
    constructor <;> grind
  unfold prodF
  omega
theorem run7 {l : AV} {rows : List (List Int)} {x : List Int} (hl : RwL l rows) (hmax : rows.length < 9223372036854775807) (h6x : x.length = 6) : WF D5 (.func 7 [] []) [l, .agg (icells x)] ⟨[], []⟩ fun y m' => y = .bool true := by
  have hll := hl.len
  have hlx : (icells x).length = 6 := by rw [icells_len, h6x]
  have hcx := icells_cut h6x
  have c24 := fun m => s24 (m := m)
  obtain ⟨x1, hx1, c30⟩ := x30 hl hmax
  have c30 := fun m => c30 m l (hl.byVal _)
  by_cases hv : VM rows
  · have ec : errC rows = 0 := if_pos hv
    rw [ec] at c30
    have h6 := hl.sixR.six
    have e1 : kernR rows = kerF rows := if_pos hv
    have hk1 := kern_len hv h6
    rw [e1] at hx1 hk1
    have l1 := hx1.len
    have hK := ker_lat hv h6
    have hHf := hK.hf
    rw [← hK.len] at hHf
    have hbd := ker_bd hv h6
    have hk6 : (kerF rows).length ≤ 6 := by omega
    have c37 := fun m => s37 (m := m) hx1 hHf hk6
    have c40 := fun m => s40m (m := m) hx1 hk6 hbd fun is js a1 a2 a3 a4 => ker_minor hv h6 a1 a2 a3 a4
    rw [ker_prim hK hk6] at c40
    have c38x := fun m => s38 (m := m) h6x
    have hzero : ∀ i n, i < rows.length → n < (kerF rows).length → prodF (rw_ rows i) (rw_ (kerF rows) n) = 0 := fun i n hi hn => (hK.sp _).1 (Sp.row hn) i hi
    generalize hxs : decide (smallV x) = xs at *
    refine WF.fnE rfl (fn_of Try.func7 cir7) (by show 2 ≤ 98; decide) ?_
    unfold ir7; dsimp only [k0, kI, mV, oO, oG]
    simp only [padTo, List.replicate, List.nil_append, List.append_nil, List.cons_append]
    repeat' (first | (refine WO.yes rfl ?_) | (refine WO.opE (by intro; simp (disch := omega) only [go_sem, Zz.look, fillP, Option.bind_eq_bind, List.append_assoc, app_g0, app_g1, app_g2, app_g3, app_g4, app_s0, app_s1, app_s2, app_s3, app_s4, zeros, List.length_append, ov_one0, ov_one1, ov_one2, ov_one3, ov_all2, ov_all3, ov_all4, Nat.reduceAdd, Nat.reduceMul, Nat.reduceSub, Nat.reduceLeDiff, Nat.reduceEqDiff, Int.reduceNeg, Int.reduceAdd, Int.reduceToNat, reduceIte, reduceCtorEq, hlx, hcx]; rfl) (by simp only [pt8, pt0, pt1, pt2, pt3, pt4, pt5, pt6, pt7]; rfl) ?_) | (refine WO.opE (by intro; exact ev_lenS (by simp only [go_sem]; first | rfl | assumption)) (by simp only [pt8, pt0, pt1, pt2, pt3, pt4, pt5, pt6, pt7]; rfl) ?_) | (refine WO.specE rfl rfl (c24 _) (by simp only [pt8, pt0, pt1, pt2, pt3, pt4, pt5, pt6, pt7]; rfl) ?_) | (refine WO.specE rfl rfl (c30 _) (by simp only [pt8, pt0, pt1, pt2, pt3, pt4, pt5, pt6, pt7]; rfl) ?_) | (refine WO.specE rfl rfl (c37 _) (by simp only [pt8, pt0, pt1, pt2, pt3, pt4, pt5, pt6, pt7]; rfl) ?_) | (refine WO.specE rfl rfl (c40 _) (by simp only [pt8, pt0, pt1, pt2, pt3, pt4, pt5, pt6, pt7]; rfl) ?_) | (refine WO.specE rfl rfl (c38x _) (by simp only [pt8, pt0, pt1, pt2, pt3, pt4, pt5, pt6, pt7]; rfl) ?_) | (refine WC.seq ?_) | (refine WC.region ?_) | (refine WO.nil ?_) | (simp only [fl1, fl2, fl3, fl4, fl5, fl6, fl7, fl8, fl9, fl10, Nat.reduceBEq]) | (refine WC.no rfl ?_) | (refine WC.skip ?_) | (refine WC.block ?_) | (refine WO.em2 rfl (by intro hp; simp only [hp, decide_true]; rfl) (by intro hp; simp only [hp, decide_false]; rfl) (fun hp => ?_) (fun hp => ?_) <;> try (exfalso; first | omega | contradiction)))
    refine WC.loopI (fun m s => ∃ T i is, s = ⟨T, [some ⟨0, icells x⟩], []⟩ ∧ T.length = 98 ∧ gt T 0 = l ∧ gt T 3 = .pref 0 0 0 ∧ gt T 5 = .bool true ∧ gt T 6 = x1 ∧ gt T 8 = .bool is ∧ gt T 9 = .int .i64 (i : Nat) ∧ m + i = rows.length ∧ (is = true → smallV x ∧ ∀ t, t < i → prodF (rw_ rows t) x = 0)) ?_ rows.length _ ⟨_, 0, xs, rfl, rfl, rfl, rfl, rfl, rfl, rfl, rfl, by omega, fun h => ⟨by rw [h] at hxs; exact of_decide_eq_true hxs, fun t ht => by omega⟩⟩
    rintro m _ ⟨T, i, is, rfl, hTl, g0, g3, g5, g6, g8, g9, hm, his⟩
    obtain ⟨f, rfl⟩ := ex98 hTl
    clear hTl
    replace g0 : f 0 = l := g0
    replace g3 : f 3 = .pref 0 0 0 := g3
    replace g5 : f 5 = .bool true := g5
    replace g6 : f 6 = x1 := g6
    replace g8 : f 8 = .bool is := g8
    replace g9 : f 9 = .int .i64 (i : Nat) := g9
    simp only [g0, g3, g5, g6, g8, g9]
    by_cases hi : i < rows.length
    · have h6n := hl.six hi
      have hat := hl.at hi
      have hcut := cut_row (t := tailr rows i) h6n
      have hcr : (rw_ rows i).map (AV.int .i64) = icells (rw_ rows i) := rfl
      rw [hcr] at hat hcut
      have c38 := fun m => s38 (m := m) h6n
      repeat' (first | (refine WO.opE (by intro; simp (disch := omega) only [go_sem, Zz.look, fillP, Option.bind_eq_bind, List.append_assoc, app_g0, app_g1, app_g2, app_g3, app_g4, app_s0, app_s1, app_s2, app_s3, app_s4, zeros, List.length_append, ov_one0, ov_one1, ov_one2, ov_one3, ov_all2, ov_all3, ov_all4, Nat.reduceAdd, Nat.reduceMul, Nat.reduceSub, Nat.reduceLeDiff, Nat.reduceEqDiff, Int.reduceNeg, Int.reduceAdd, Int.reduceToNat, reduceIte, reduceCtorEq, hat, hcut]; rfl) (by simp only [pt8, pt0, pt1, pt2, pt3, pt4, pt5, pt6, pt7]; rfl) ?_) | (refine WO.opE (by intro; exact ev_lenS (by simp only [go_sem]; first | rfl | assumption)) (by simp only [pt8, pt0, pt1, pt2, pt3, pt4, pt5, pt6, pt7]; rfl) ?_) | (refine WC.seq ?_) | (refine WC.region ?_) | (refine WO.nil ?_) | (simp only [fl1, fl2, fl3, fl4, fl5, fl6, fl7, fl8, fl9, fl10, Nat.reduceBEq]) | (refine WC.skip ?_) | (refine WC.block ?_) | (refine WC.em2 rfl (fun hp => ?_) (fun hp => ?_) <;> try (exfalso; first | omega | contradiction)))
      refine WC.loopI (fun m2 s => ∃ T n, s = ⟨T, [some ⟨0, icells x⟩], []⟩ ∧ T.length = 98 ∧ gt T 0 = l ∧ gt T 3 = .pref 0 0 0 ∧ gt T 5 = .bool true ∧ gt T 6 = x1 ∧ gt T 8 = .bool is ∧ gt T 9 = .int .i64 (i : Nat) ∧ gt T 10 = .int .i64 (n : Nat) ∧ m2 + n = (kerF rows).length) ?_ (kerF rows).length _ ⟨_, 0, rfl, rfl, rfl, rfl, rfl, rfl, rfl, rfl, rfl, by omega⟩
      clear g0 g3 g5 g6 g8 g9 f
      rintro m2 _ ⟨T, n, rfl, hTl, g0, g3, g5, g6, g8, g9, g10, hm2⟩
      obtain ⟨f, rfl⟩ := ex98 hTl
      clear hTl
      replace g0 : f 0 = l := g0
      replace g3 : f 3 = .pref 0 0 0 := g3
      replace g5 : f 5 = .bool true := g5
      replace g6 : f 6 = x1 := g6
      replace g8 : f 8 = .bool is := g8
      replace g9 : f 9 = .int .i64 (i : Nat) := g9
      replace g10 : f 10 = .int .i64 (n : Nat) := g10
      simp only [g0, g3, g5, g6, g8, g9, g10]
      by_cases hn : n < (kerF rows).length
      · have k6n := hx1.six hn
        have kat := hx1.at hn
        have kcut := cut_row (t := tailr (kerF rows) n) k6n
        have kcr : (rw_ (kerF rows) n).map (AV.int .i64) = icells (rw_ (kerF rows) n) := rfl
        rw [kcr] at kat kcut
        have hz := hzero i n hi hn
        have c42 := fun m => s42 (m := m) h6n k6n (by rw [hz]; decide)
        rw [hz] at c42
        repeat' (first | (refine WO.opE (by intro; simp (disch := omega) only [go_sem, Zz.look, fillP, Option.bind_eq_bind, List.append_assoc, app_g0, app_g1, app_g2, app_g3, app_g4, app_s0, app_s1, app_s2, app_s3, app_s4, zeros, List.length_append, ov_one0, ov_one1, ov_one2, ov_one3, ov_all2, ov_all3, ov_all4, Nat.reduceAdd, Nat.reduceMul, Nat.reduceSub, Nat.reduceLeDiff, Nat.reduceEqDiff, Int.reduceNeg, Int.reduceAdd, Int.reduceToNat, reduceIte, reduceCtorEq, hat, hcut, kat, kcut]; rfl) (by simp only [pt8, pt0, pt1, pt2, pt3, pt4, pt5, pt6, pt7]; rfl) ?_) | (refine WO.opE (by intro; exact ev_lenS (by simp only [go_sem]; first | rfl | assumption)) (by simp only [pt8, pt0, pt1, pt2, pt3, pt4, pt5, pt6, pt7]; rfl) ?_) | (refine WT.spec rfl rfl (fun V => c42 ⟨V, []⟩) (by simp only [pt8, pt0, pt1, pt2, pt3, pt4, pt5, pt6, pt7]; rfl) ?_) | (refine WC.seq ?_) | (refine WC.region ?_) | (refine WO.nil ?_) | (simp only [fl1, fl2, fl3, fl4, fl5, fl6, fl7, fl8, fl9, fl10, Nat.reduceBEq]) | (refine WC.drawT ?_) | (refine WT.nil ?_) | (refine WT.yes rfl ?_) | (refine WT.free rfl (by intro; simp (disch := omega) only [go_sem, Zz.look, fillP, Option.bind_eq_bind, List.append_assoc, app_g0, app_g1, app_g2, app_g3, app_g4, app_s0, app_s1, app_s2, app_s3, app_s4, zeros, List.length_append, ov_one0, ov_one1, ov_one2, ov_one3, ov_all2, ov_all3, ov_all4, Nat.reduceAdd, Nat.reduceMul, Nat.reduceSub, Nat.reduceLeDiff, Nat.reduceEqDiff, Int.reduceNeg, Int.reduceAdd, Int.reduceToNat, reduceIte, reduceCtorEq, hat, hcut, kat, kcut]; rfl) rfl (by simp only [pt8, pt0, pt1, pt2, pt3, pt4, pt5, pt6, pt7]; rfl) ?_) | (refine WT.big rfl rfl (by intro; simp (disch := omega) only [go_sem, Zz.look, fillP, Option.bind_eq_bind, List.append_assoc, app_g0, app_g1, app_g2, app_g3, app_g4, app_s0, app_s1, app_s2, app_s3, app_s4, zeros, List.length_append, ov_one0, ov_one1, ov_one2, ov_one3, ov_all2, ov_all3, ov_all4, Nat.reduceAdd, Nat.reduceMul, Nat.reduceSub, Nat.reduceLeDiff, Nat.reduceEqDiff, Int.reduceNeg, Int.reduceAdd, Int.reduceToNat, reduceIte, reduceCtorEq, hat, hcut, kat, kcut]; rfl) (by simp (disch := omega) only [go_sem, Zz.look, fillP, Option.bind_eq_bind, List.append_assoc, app_g0, app_g1, app_g2, app_g3, app_g4, app_s0, app_s1, app_s2, app_s3, app_s4, zeros, List.length_append, ov_one0, ov_one1, ov_one2, ov_one3, ov_all2, ov_all3, ov_all4, Nat.reduceAdd, Nat.reduceMul, Nat.reduceSub, Nat.reduceLeDiff, Nat.reduceEqDiff, Int.reduceNeg, Int.reduceAdd, Int.reduceToNat, reduceIte, reduceCtorEq, hat, hcut, kat, kcut, touch]; rfl) (by first | exact .inl rfl | exact .inr (apart_nil _) | exact .inr trivial | (right; apply apart_mk; simp only [apartL, List.nil_append, List.cons_append, List.getElem?_cons_succ, List.getElem?_cons_zero, Tch.free, and_true, true_and]; first | done | omega)) (by simp only [pt8, pt0, pt1, pt2, pt3, pt4, pt5, pt6, pt7]; rfl) ?_) | (refine WC.skip ?_) | (refine WC.block ?_) | (refine WC.em2 rfl (fun hp => ?_) (fun hp => ?_) <;> try (exfalso; first | omega | contradiction)))
        exact ⟨m2 - 1, by omega, _, n + 1, rfl, rfl, rfl, rfl, rfl, rfl, rfl, rfl, rfl, by omega⟩
      · have hne : n = (kerF rows).length := by omega
        subst hne
        cases is
        · skip
          repeat' (first | (refine WO.opE (by intro; simp (disch := omega) only [go_sem, Zz.look, fillP, Option.bind_eq_bind, List.append_assoc, app_g0, app_g1, app_g2, app_g3, app_g4, app_s0, app_s1, app_s2, app_s3, app_s4, zeros, List.length_append, ov_one0, ov_one1, ov_one2, ov_one3, ov_all2, ov_all3, ov_all4, Nat.reduceAdd, Nat.reduceMul, Nat.reduceSub, Nat.reduceLeDiff, Nat.reduceEqDiff, Int.reduceNeg, Int.reduceAdd, Int.reduceToNat, reduceIte, reduceCtorEq, hat, hcut]; rfl) (by simp only [pt8, pt0, pt1, pt2, pt3, pt4, pt5, pt6, pt7]; rfl) ?_) | (refine WO.opE (by intro; exact ev_lenS (by simp only [go_sem]; first | rfl | assumption)) (by simp only [pt8, pt0, pt1, pt2, pt3, pt4, pt5, pt6, pt7]; rfl) ?_) | (refine WC.seq ?_) | (refine WC.region ?_) | (refine WO.nil ?_) | (simp only [fl1, fl2, fl3, fl4, fl5, fl6, fl7, fl8, fl9, fl10, Nat.reduceBEq]) | (refine WC.drawT ?_) | (refine WT.nil ?_) | (refine WT.no rfl (by simp only [pt8, pt0, pt1, pt2, pt3, pt4, pt5, pt6, pt7]; rfl) ?_) | (refine WT.free rfl (by intro; simp (disch := omega) only [go_sem, Zz.look, fillP, Option.bind_eq_bind, List.append_assoc, app_g0, app_g1, app_g2, app_g3, app_g4, app_s0, app_s1, app_s2, app_s3, app_s4, zeros, List.length_append, ov_one0, ov_one1, ov_one2, ov_one3, ov_all2, ov_all3, ov_all4, Nat.reduceAdd, Nat.reduceMul, Nat.reduceSub, Nat.reduceLeDiff, Nat.reduceEqDiff, Int.reduceNeg, Int.reduceAdd, Int.reduceToNat, reduceIte, reduceCtorEq, hat, hcut]; rfl) rfl (by simp only [pt8, pt0, pt1, pt2, pt3, pt4, pt5, pt6, pt7]; rfl) ?_) | (refine WC.exit ?_) | (refine WC.em2 rfl (fun hp => ?_) (fun hp => ?_) <;> try (exfalso; first | omega | contradiction)))
          exact ⟨m - 1, by omega, _, i + 1, false, rfl, rfl, rfl, rfl, rfl, rfl, rfl, rfl, by omega, fun h => by cases h⟩
        · obtain ⟨hsx, hpt⟩ := his rfl
          by_cases hs : smallV (rw_ rows i)
          · rw [decide_eq_true hs] at c38
            have c42 := fun m => s42 (m := m) h6n h6x (small_prod hs hsx)
            by_cases hz : prodF (rw_ rows i) x = 0
            · rw [hz] at c42
              repeat' (first | (refine WO.opE (by intro; simp (disch := omega) only [go_sem, hcx, Zz.look, fillP, Option.bind_eq_bind, List.append_assoc, app_g0, app_g1, app_g2, app_g3, app_g4, app_s0, app_s1, app_s2, app_s3, app_s4, zeros, List.length_append, ov_one0, ov_one1, ov_one2, ov_one3, ov_all2, ov_all3, ov_all4, Nat.reduceAdd, Nat.reduceMul, Nat.reduceSub, Nat.reduceLeDiff, Nat.reduceEqDiff, Int.reduceNeg, Int.reduceAdd, Int.reduceToNat, reduceIte, reduceCtorEq, hat, hcut]; rfl) (by simp only [pt8, pt0, pt1, pt2, pt3, pt4, pt5, pt6, pt7]; rfl) ?_) | (refine WO.opE (by intro; exact ev_lenS (by simp only [go_sem]; first | rfl | assumption)) (by simp only [pt8, pt0, pt1, pt2, pt3, pt4, pt5, pt6, pt7]; rfl) ?_) | (refine WT.spec rfl rfl (fun V => c38 ⟨V, []⟩) (by simp only [pt8, pt0, pt1, pt2, pt3, pt4, pt5, pt6, pt7]; rfl) ?_) | (refine WT.spec rfl rfl (fun V => c42 ⟨V, []⟩) (by simp only [pt8, pt0, pt1, pt2, pt3, pt4, pt5, pt6, pt7]; rfl) ?_) | (refine WC.seq ?_) | (refine WC.region ?_) | (refine WO.nil ?_) | (simp only [fl1, fl2, fl3, fl4, fl5, fl6, fl7, fl8, fl9, fl10, Nat.reduceBEq]) | (refine WC.drawT ?_) | (refine WT.nil ?_) | (refine WT.yes rfl ?_) | (refine WT.free rfl (by intro; simp (disch := omega) only [go_sem, hcx, Zz.look, fillP, Option.bind_eq_bind, List.append_assoc, app_g0, app_g1, app_g2, app_g3, app_g4, app_s0, app_s1, app_s2, app_s3, app_s4, zeros, List.length_append, ov_one0, ov_one1, ov_one2, ov_one3, ov_all2, ov_all3, ov_all4, Nat.reduceAdd, Nat.reduceMul, Nat.reduceSub, Nat.reduceLeDiff, Nat.reduceEqDiff, Int.reduceNeg, Int.reduceAdd, Int.reduceToNat, reduceIte, reduceCtorEq, hat, hcut]; rfl) rfl (by simp only [pt8, pt0, pt1, pt2, pt3, pt4, pt5, pt6, pt7]; rfl) ?_) | (refine WT.big rfl rfl (by intro; simp (disch := omega) only [go_sem, hcx, Zz.look, fillP, Option.bind_eq_bind, List.append_assoc, app_g0, app_g1, app_g2, app_g3, app_g4, app_s0, app_s1, app_s2, app_s3, app_s4, zeros, List.length_append, ov_one0, ov_one1, ov_one2, ov_one3, ov_all2, ov_all3, ov_all4, Nat.reduceAdd, Nat.reduceMul, Nat.reduceSub, Nat.reduceLeDiff, Nat.reduceEqDiff, Int.reduceNeg, Int.reduceAdd, Int.reduceToNat, reduceIte, reduceCtorEq, hat, hcut]; rfl) (by simp (disch := omega) only [go_sem, hcx, Zz.look, fillP, Option.bind_eq_bind, List.append_assoc, app_g0, app_g1, app_g2, app_g3, app_g4, app_s0, app_s1, app_s2, app_s3, app_s4, zeros, List.length_append, ov_one0, ov_one1, ov_one2, ov_one3, ov_all2, ov_all3, ov_all4, Nat.reduceAdd, Nat.reduceMul, Nat.reduceSub, Nat.reduceLeDiff, Nat.reduceEqDiff, Int.reduceNeg, Int.reduceAdd, Int.reduceToNat, reduceIte, reduceCtorEq, hat, hcut, touch]; rfl) (by first | exact .inl rfl | exact .inr (apart_nil _) | exact .inr trivial | (right; apply apart_mk; simp only [apartL, List.nil_append, List.cons_append, List.getElem?_cons_succ, List.getElem?_cons_zero, Tch.free, and_true, true_and]; first | done | omega)) (by simp only [pt8, pt0, pt1, pt2, pt3, pt4, pt5, pt6, pt7]; rfl) ?_) | (refine WC.exit ?_) | (refine WC.em2 rfl (fun hp => ?_) (fun hp => ?_) <;> try (exfalso; first | omega | contradiction)))
              exact ⟨m - 1, by omega, _, i + 1, true, rfl, rfl, rfl, rfl, rfl, rfl, rfl, rfl, by omega, fun _ => ⟨hsx, fun t ht => by
                by_cases e : t = i
                · rw [e]; exact hz
                · exact hpt t (by omega)⟩⟩
            · generalize prodF (rw_ rows i) x = z at *
              repeat' (first | (refine WO.opE (by intro; simp (disch := omega) only [go_sem, hcx, Zz.look, fillP, Option.bind_eq_bind, List.append_assoc, app_g0, app_g1, app_g2, app_g3, app_g4, app_s0, app_s1, app_s2, app_s3, app_s4, zeros, List.length_append, ov_one0, ov_one1, ov_one2, ov_one3, ov_all2, ov_all3, ov_all4, Nat.reduceAdd, Nat.reduceMul, Nat.reduceSub, Nat.reduceLeDiff, Nat.reduceEqDiff, Int.reduceNeg, Int.reduceAdd, Int.reduceToNat, reduceIte, reduceCtorEq, hat, hcut, hz]; rfl) (by simp only [pt8, pt0, pt1, pt2, pt3, pt4, pt5, pt6, pt7]; rfl) ?_) | (refine WO.opE (by intro; exact ev_lenS (by simp only [go_sem]; first | rfl | assumption)) (by simp only [pt8, pt0, pt1, pt2, pt3, pt4, pt5, pt6, pt7]; rfl) ?_) | (refine WT.spec rfl rfl (fun V => c38 ⟨V, []⟩) (by simp only [pt8, pt0, pt1, pt2, pt3, pt4, pt5, pt6, pt7]; rfl) ?_) | (refine WT.spec rfl rfl (fun V => c42 ⟨V, []⟩) (by simp only [pt8, pt0, pt1, pt2, pt3, pt4, pt5, pt6, pt7]; rfl) ?_) | (refine WC.seq ?_) | (refine WC.region ?_) | (refine WO.nil ?_) | (simp only [fl1, fl2, fl3, fl4, fl5, fl6, fl7, fl8, fl9, fl10, Nat.reduceBEq]) | (refine WC.drawT ?_) | (refine WT.nil ?_) | (refine WT.yes rfl ?_) | (refine WT.free rfl (by intro; simp (disch := omega) only [go_sem, hcx, Zz.look, fillP, Option.bind_eq_bind, List.append_assoc, app_g0, app_g1, app_g2, app_g3, app_g4, app_s0, app_s1, app_s2, app_s3, app_s4, zeros, List.length_append, ov_one0, ov_one1, ov_one2, ov_one3, ov_all2, ov_all3, ov_all4, Nat.reduceAdd, Nat.reduceMul, Nat.reduceSub, Nat.reduceLeDiff, Nat.reduceEqDiff, Int.reduceNeg, Int.reduceAdd, Int.reduceToNat, reduceIte, reduceCtorEq, hat, hcut, hz]; rfl) rfl (by simp only [pt8, pt0, pt1, pt2, pt3, pt4, pt5, pt6, pt7]; rfl) ?_) | (refine WT.big rfl rfl (by intro; simp (disch := omega) only [go_sem, hcx, Zz.look, fillP, Option.bind_eq_bind, List.append_assoc, app_g0, app_g1, app_g2, app_g3, app_g4, app_s0, app_s1, app_s2, app_s3, app_s4, zeros, List.length_append, ov_one0, ov_one1, ov_one2, ov_one3, ov_all2, ov_all3, ov_all4, Nat.reduceAdd, Nat.reduceMul, Nat.reduceSub, Nat.reduceLeDiff, Nat.reduceEqDiff, Int.reduceNeg, Int.reduceAdd, Int.reduceToNat, reduceIte, reduceCtorEq, hat, hcut, hz]; rfl) (by simp (disch := omega) only [go_sem, hcx, Zz.look, fillP, Option.bind_eq_bind, List.append_assoc, app_g0, app_g1, app_g2, app_g3, app_g4, app_s0, app_s1, app_s2, app_s3, app_s4, zeros, List.length_append, ov_one0, ov_one1, ov_one2, ov_one3, ov_all2, ov_all3, ov_all4, Nat.reduceAdd, Nat.reduceMul, Nat.reduceSub, Nat.reduceLeDiff, Nat.reduceEqDiff, Int.reduceNeg, Int.reduceAdd, Int.reduceToNat, reduceIte, reduceCtorEq, hat, hcut, hz, touch]; rfl) (by first | exact .inl rfl | exact .inr (apart_nil _) | exact .inr trivial | (right; apply apart_mk; simp only [apartL, List.nil_append, List.cons_append, List.getElem?_cons_succ, List.getElem?_cons_zero, Tch.free, and_true, true_and]; first | done | omega)) (by simp only [pt8, pt0, pt1, pt2, pt3, pt4, pt5, pt6, pt7]; rfl) ?_) | (refine WC.exit ?_) | (refine WC.em2 rfl (fun hp => ?_) (fun hp => ?_) <;> try (exfalso; first | omega | contradiction)))
              exact ⟨m - 1, by omega, _, i + 1, false, rfl, rfl, rfl, rfl, rfl, rfl, rfl, rfl, by omega, fun h => by cases h⟩
          · rw [decide_eq_false hs] at c38
            repeat' (first | (refine WO.opE (by intro; simp (disch := omega) only [go_sem, Zz.look, fillP, Option.bind_eq_bind, List.append_assoc, app_g0, app_g1, app_g2, app_g3, app_g4, app_s0, app_s1, app_s2, app_s3, app_s4, zeros, List.length_append, ov_one0, ov_one1, ov_one2, ov_one3, ov_all2, ov_all3, ov_all4, Nat.reduceAdd, Nat.reduceMul, Nat.reduceSub, Nat.reduceLeDiff, Nat.reduceEqDiff, Int.reduceNeg, Int.reduceAdd, Int.reduceToNat, reduceIte, reduceCtorEq, hat, hcut]; rfl) (by simp only [pt8, pt0, pt1, pt2, pt3, pt4, pt5, pt6, pt7]; rfl) ?_) | (refine WO.opE (by intro; exact ev_lenS (by simp only [go_sem]; first | rfl | assumption)) (by simp only [pt8, pt0, pt1, pt2, pt3, pt4, pt5, pt6, pt7]; rfl) ?_) | (refine WT.spec rfl rfl (fun V => c38 ⟨V, []⟩) (by simp only [pt8, pt0, pt1, pt2, pt3, pt4, pt5, pt6, pt7]; rfl) ?_) | (refine WC.seq ?_) | (refine WC.region ?_) | (refine WO.nil ?_) | (simp only [fl1, fl2, fl3, fl4, fl5, fl6, fl7, fl8, fl9, fl10, Nat.reduceBEq]) | (refine WC.drawT ?_) | (refine WT.nil ?_) | (refine WT.yes rfl ?_) | (refine WT.no rfl (by simp only [pt8, pt0, pt1, pt2, pt3, pt4, pt5, pt6, pt7]; rfl) ?_) | (refine WT.free rfl (by intro; simp (disch := omega) only [go_sem, Zz.look, fillP, Option.bind_eq_bind, List.append_assoc, app_g0, app_g1, app_g2, app_g3, app_g4, app_s0, app_s1, app_s2, app_s3, app_s4, zeros, List.length_append, ov_one0, ov_one1, ov_one2, ov_one3, ov_all2, ov_all3, ov_all4, Nat.reduceAdd, Nat.reduceMul, Nat.reduceSub, Nat.reduceLeDiff, Nat.reduceEqDiff, Int.reduceNeg, Int.reduceAdd, Int.reduceToNat, reduceIte, reduceCtorEq, hat, hcut]; rfl) rfl (by simp only [pt8, pt0, pt1, pt2, pt3, pt4, pt5, pt6, pt7]; rfl) ?_) | (refine WT.big rfl rfl (by intro; simp (disch := omega) only [go_sem, Zz.look, fillP, Option.bind_eq_bind, List.append_assoc, app_g0, app_g1, app_g2, app_g3, app_g4, app_s0, app_s1, app_s2, app_s3, app_s4, zeros, List.length_append, ov_one0, ov_one1, ov_one2, ov_one3, ov_all2, ov_all3, ov_all4, Nat.reduceAdd, Nat.reduceMul, Nat.reduceSub, Nat.reduceLeDiff, Nat.reduceEqDiff, Int.reduceNeg, Int.reduceAdd, Int.reduceToNat, reduceIte, reduceCtorEq, hat, hcut]; rfl) (by simp (disch := omega) only [go_sem, Zz.look, fillP, Option.bind_eq_bind, List.append_assoc, app_g0, app_g1, app_g2, app_g3, app_g4, app_s0, app_s1, app_s2, app_s3, app_s4, zeros, List.length_append, ov_one0, ov_one1, ov_one2, ov_one3, ov_all2, ov_all3, ov_all4, Nat.reduceAdd, Nat.reduceMul, Nat.reduceSub, Nat.reduceLeDiff, Nat.reduceEqDiff, Int.reduceNeg, Int.reduceAdd, Int.reduceToNat, reduceIte, reduceCtorEq, hat, hcut, touch]; rfl) (by first | exact .inl rfl | exact .inr (apart_nil _) | exact .inr trivial | (right; apply apart_mk; simp only [apartL, List.nil_append, List.cons_append, List.getElem?_cons_succ, List.getElem?_cons_zero, Tch.free, and_true, true_and]; first | done | omega)) (by simp only [pt8, pt0, pt1, pt2, pt3, pt4, pt5, pt6, pt7]; rfl) ?_) | (refine WC.exit ?_) | (refine WC.em2 rfl (fun hp => ?_) (fun hp => ?_) <;> try (exfalso; first | omega | contradiction)))
            exact ⟨m - 1, by omega, _, i + 1, false, rfl, rfl, rfl, rfl, rfl, rfl, rfl, rfl, by omega, fun h => by cases h⟩
    · have hie : i = rows.length := by omega
      subst hie
      cases is
      · skip
        repeat' (first | (refine WO.yes rfl ?_) | (refine WO.noE rfl (by simp only [pt8, pt0, pt1, pt2, pt3, pt4, pt5, pt6, pt7]; rfl) ?_) | (refine WO.opE (by intro; simp (disch := omega) only [go_sem, Zz.look, fillP, Option.bind_eq_bind, List.append_assoc, app_g0, app_g1, app_g2, app_g3, app_g4, app_s0, app_s1, app_s2, app_s3, app_s4, zeros, List.length_append, ov_one0, ov_one1, ov_one2, ov_one3, ov_all2, ov_all3, ov_all4, Nat.reduceAdd, Nat.reduceMul, Nat.reduceSub, Nat.reduceLeDiff, Nat.reduceEqDiff, Int.reduceNeg, Int.reduceAdd, Int.reduceToNat, reduceIte, reduceCtorEq]; rfl) (by simp only [pt8, pt0, pt1, pt2, pt3, pt4, pt5, pt6, pt7]; rfl) ?_) | (refine WO.opE (by intro; exact ev_lenS (by simp only [go_sem]; first | rfl | assumption)) (by simp only [pt8, pt0, pt1, pt2, pt3, pt4, pt5, pt6, pt7]; rfl) ?_) | (refine WC.seq ?_) | (refine WC.region ?_) | (refine WO.nil ?_) | (simp only [fl1, fl2, fl3, fl4, fl5, fl6, fl7, fl8, fl9, fl10, Nat.reduceBEq]) | (refine WC.exit ?_) | (refine WC.ret ?_) | (refine WC.em2 rfl (fun hp => ?_) (fun hp => ?_) <;> try (exfalso; first | omega | contradiction)))
        exact ⟨_, rfl, rfl⟩
      · obtain ⟨hsx, hpt⟩ := his rfl
        have c39 := fun m => s39 (m := m) hx1 hHf hk6 hbd h6x hsx ((hK.sp _).2 fun i hi => hpt i hi)
        repeat' (first | (refine WO.yes rfl ?_) | (refine WO.opE (by intro; simp (disch := omega) only [go_sem, hcx, Zz.look, fillP, Option.bind_eq_bind, List.append_assoc, app_g0, app_g1, app_g2, app_g3, app_g4, app_s0, app_s1, app_s2, app_s3, app_s4, zeros, List.length_append, ov_one0, ov_one1, ov_one2, ov_one3, ov_all2, ov_all3, ov_all4, Nat.reduceAdd, Nat.reduceMul, Nat.reduceSub, Nat.reduceLeDiff, Nat.reduceEqDiff, Int.reduceNeg, Int.reduceAdd, Int.reduceToNat, reduceIte, reduceCtorEq]; rfl) (by simp only [pt8, pt0, pt1, pt2, pt3, pt4, pt5, pt6, pt7]; rfl) ?_) | (refine WO.opE (by intro; exact ev_lenS (by simp only [go_sem]; first | rfl | assumption)) (by simp only [pt8, pt0, pt1, pt2, pt3, pt4, pt5, pt6, pt7]; rfl) ?_) | (refine WO.specE rfl rfl (c39 _) (by simp only [pt8, pt0, pt1, pt2, pt3, pt4, pt5, pt6, pt7]; rfl) ?_) | (refine WC.seq ?_) | (refine WC.region ?_) | (refine WO.nil ?_) | (simp only [fl1, fl2, fl3, fl4, fl5, fl6, fl7, fl8, fl9, fl10, Nat.reduceBEq]) | (refine WC.exit ?_) | (refine WC.ret ?_) | (refine WC.em2 rfl (fun hp => ?_) (fun hp => ?_) <;> try (exfalso; first | omega | contradiction)))
        exact ⟨_, rfl, rfl⟩
  · have ec : errC rows = 1 := if_neg hv
    have e1 : kernR rows = [] := if_neg hv
    rw [e1] at hx1
    have l1 := hx1.len
    rw [ec] at c30
    refine WF.fnE rfl (fn_of Try.func7 cir7) (by show 2 ≤ 98; decide) ?_
    unfold ir7; dsimp only [k0, kI, mV, oO, oG]
    simp only [padTo, List.replicate, List.nil_append, List.append_nil, List.cons_append]
    repeat' (first | (refine WO.yes rfl ?_) | (refine WO.opE (by intro; simp (disch := omega) only [go_sem, Zz.look, fillP, Option.bind_eq_bind, List.append_assoc, app_g0, app_g1, app_g2, app_g3, app_g4, app_s0, app_s1, app_s2, app_s3, app_s4, zeros, List.length_append, ov_one0, ov_one1, ov_one2, ov_one3, ov_all2, ov_all3, ov_all4, Nat.reduceAdd, Nat.reduceMul, Nat.reduceSub, Nat.reduceLeDiff, Nat.reduceEqDiff, Int.reduceNeg, Int.reduceAdd, Int.reduceToNat, reduceIte, reduceCtorEq, hlx, hcx]; rfl) (by simp only [pt8, pt0, pt1, pt2, pt3, pt4, pt5, pt6, pt7]; rfl) ?_) | (refine WO.opE (by intro; exact ev_lenS (by simp only [go_sem]; first | rfl | assumption)) (by simp only [pt8, pt0, pt1, pt2, pt3, pt4, pt5, pt6, pt7]; rfl) ?_) | (refine WO.specE rfl rfl (c24 _) (by simp only [pt8, pt0, pt1, pt2, pt3, pt4, pt5, pt6, pt7]; rfl) ?_) | (refine WO.specE rfl rfl (c30 _) (by simp only [pt8, pt0, pt1, pt2, pt3, pt4, pt5, pt6, pt7]; rfl) ?_) | (refine WC.seq ?_) | (refine WC.region ?_) | (refine WO.nil ?_) | (simp only [fl1, fl2, fl3, fl4, fl5, fl6, fl7, fl8, fl9, fl10, Nat.reduceBEq]) | (refine WC.yes rfl ?_) | (refine WC.ret ?_))
    exact ⟨_, rfl, rfl⟩
end Go.Proofs.Ytnilimjkibimcaa

