import Derived.Test.YtndaljjljmmlcaaL16rc

set_option linter.unusedSimpArgs false
set_option linter.unusedVariables false
namespace Go.Proofs.Ytndaljjljmmlcaa
open Go.Zz
set_option maxRecDepth 100000
set_option maxHeartbeats 4000000
theorem flat_one (d : List Bool) : (d.map fun b => [AV.bool b]).flatten = d.map .bool := by
  induction d with
  | nil => rfl
  | cons b d ih => simp [ih]
theorem boolV_at {f : Bool} {d : List Bool} {n k : Nat} (hd : d.length = n) (hk : k < n) : indexAddrAV 1 (.sval f n (d.map .bool)) (.int .i64 (k : Int)) = some (.pval (.bool (decide (d.getD k false = true)) :: ((d.map fun b => [AV.bool b]).drop (k + 1)).flatten)) := by
  subst hd
  have h : SL 1 (.sval f d.length (d.map .bool)) (d.map fun b => [AV.bool b]) := ⟨fun c hc => by obtain ⟨b, _, rfl⟩ := List.mem_map.1 hc; rfl, .inr ⟨f, by rw [List.length_map, flat_one]⟩⟩
  rw [SL.at h (i := k) (by simpa using hk)]
  simp [List.getD_eq_getElem?_getD, hk]
/-- The reference's Solve. -/
theorem f15bad {n : Int} {rs : List Rg} (hv : ¬ VL n rs) {l : AV} (hl : RdL l rs) (hmax : rs.length < 9223372036854775808) : WF F2 (.func 15 [] []) [.int .i64 n, l] ⟨[], []⟩ fun y m' => y = .tuple [.snil, .snil, .int .i64 1] := by
  refine WF.fnE rfl (fn_of Try.func15 cir15) (by show 2 ≤ 58; decide) ?_
  unfold ir15
  simp only [padTo, List.replicate, List.nil_append, List.append_nil, List.cons_append]
  repeat' (first | (refine WO.yes rfl ?_) | (refine WO.noE rfl (by simp only [pt8, pt0, pt1, pt2, pt3, pt4, pt5, pt6, pt7]; rfl) ?_) | (refine WO.opE (by intro; simp (disch := omega) only [go_sem, Zz.look, Zz.over, Zz.cut, Nat.reduceAdd, Nat.reduceMul, Nat.reduceSub, Nat.reduceLeDiff, Nat.reduceEqDiff, Int.reduceNeg, Int.reduceAdd, Int.reduceToNat, reduceIte, reduceCtorEq]; rfl) (by simp only [pt8, pt0, pt1, pt2, pt3, pt4, pt5, pt6, pt7]; rfl) ?_) | (refine WO.opN (by intro; simp (disch := omega) only [go_sem, Zz.look, Zz.over, Zz.cut, Nat.reduceAdd, Nat.reduceMul, Nat.reduceSub, Nat.reduceLeDiff, Nat.reduceEqDiff, Int.reduceNeg, Int.reduceAdd, Int.reduceToNat, reduceIte, reduceCtorEq]; rfl) ?_) | (refine WO.opE (by intro; exact ev_lenS (by simp only [go_sem]; first | rfl | assumption)) (by simp only [pt8, pt0, pt1, pt2, pt3, pt4, pt5, pt6, pt7]; rfl) ?_) | (refine WO.specE rfl rfl (s13 hl hmax) (by simp only [pt8, pt0, pt1, pt2, pt3, pt4, pt5, pt6, pt7]; rfl) ?_) | (refine WC.seq ?_) | (refine WC.region ?_) | (refine WO.nil ?_) | (simp only [fl1, fl2, fl3, fl4, fl5, fl6, fl7, fl8, fl9, fl10, Nat.reduceBEq]) | (refine WC.calm rfl ?_) | (refine WC.drawT ?_) | (refine WC.yes rfl ?_) | (refine WC.no rfl ?_) | (refine WC.skip ?_) | (refine WC.exit ?_) | (refine WC.ret ?_) | (refine WC.block ?_) | (refine WO.em2 rfl (by intro hp; simp only [hp, decide_true]; rfl) (by intro hp; simp only [hp, decide_false]; rfl) (fun hp => ?_) (fun hp => ?_) <;> try (exfalso; first | omega | contradiction)) | (refine WC.em2 rfl (fun hp => ?_) (fun hp => ?_) <;> try (exfalso; first | omega | contradiction)))
  exact ⟨_, rfl, rfl⟩
theorem f15lie {n : Int} {rs : List Rg} (hv : VL n rs) {l : AV} (hl : RdL l rs) (h30 : ∀ m, borrowE E21 30 [.int .i64 n, l] m = some (.bool true, m)) : WF F2 (.func 15 [] []) [.int .i64 n, l] ⟨[], []⟩ fun y m' => y = .tuple [.snil, .snil, .int .i64 23] := by
  have hmax : rs.length < 9223372036854775808 := by have := hv.2.2.1; omega
  refine WF.fnE rfl (fn_of Try.func15 cir15) (by show 2 ≤ 58; decide) ?_
  unfold ir15
  simp only [padTo, List.replicate, List.nil_append, List.append_nil, List.cons_append]
  repeat' (first | (refine WO.yes rfl ?_) | (refine WO.noE rfl (by simp only [pt8, pt0, pt1, pt2, pt3, pt4, pt5, pt6, pt7]; rfl) ?_) | (refine WO.opE (by intro; simp (disch := omega) only [go_sem, Zz.look, Zz.over, Zz.cut, Nat.reduceAdd, Nat.reduceMul, Nat.reduceSub, Nat.reduceLeDiff, Nat.reduceEqDiff, Int.reduceNeg, Int.reduceAdd, Int.reduceToNat, reduceIte, reduceCtorEq]; rfl) (by simp only [pt8, pt0, pt1, pt2, pt3, pt4, pt5, pt6, pt7]; rfl) ?_) | (refine WO.opN (by intro; simp (disch := omega) only [go_sem, Zz.look, Zz.over, Zz.cut, Nat.reduceAdd, Nat.reduceMul, Nat.reduceSub, Nat.reduceLeDiff, Nat.reduceEqDiff, Int.reduceNeg, Int.reduceAdd, Int.reduceToNat, reduceIte, reduceCtorEq]; rfl) ?_) | (refine WO.opE (by intro; exact ev_lenS (by simp only [go_sem]; first | rfl | assumption)) (by simp only [pt8, pt0, pt1, pt2, pt3, pt4, pt5, pt6, pt7]; rfl) ?_) | (refine WO.specE rfl rfl (s13 hl hmax) (by simp only [pt8, pt0, pt1, pt2, pt3, pt4, pt5, pt6, pt7]; rfl) ?_) | (refine WO.specE rfl rfl (h30 _) (by simp only [pt8, pt0, pt1, pt2, pt3, pt4, pt5, pt6, pt7]; rfl) ?_) | (refine WC.seq ?_) | (refine WC.region ?_) | (refine WO.nil ?_) | (simp only [fl1, fl2, fl3, fl4, fl5, fl6, fl7, fl8, fl9, fl10, Nat.reduceBEq]) | (refine WC.calm rfl ?_) | (refine WC.drawT ?_) | (refine WC.yes rfl ?_) | (refine WC.no rfl ?_) | (refine WC.skip ?_) | (refine WC.exit ?_) | (refine WC.ret ?_) | (refine WC.block ?_) | (refine WO.em2 rfl (by intro hp; simp only [hp, decide_true]; rfl) (by intro hp; simp only [hp, decide_false]; rfl) (fun hp => ?_) (fun hp => ?_) <;> try (exfalso; first | omega | contradiction)) | (refine WC.em2 rfl (fun hp => ?_) (fun hp => ?_) <;> try (exfalso; first | omega | contradiction)))
  exact ⟨_, rfl, rfl⟩
theorem f15 {n : Int} {rs : List Rg} (hv : VL n rs) {l : AV} (hl : RdL l rs) {p : Nat → Int} (hp0 : Pot rs p) (h30 : ∀ m, borrowE E21 30 [.int .i64 n, l] m = some (.bool false, m)) : WF F2 (.func 15 [] []) [.int .i64 n, l] ⟨[], []⟩ fun y m' => ∃ ys, Sized rs n.toNat ys ∧ resV m'.heap y = some (.tuple [.sval true ys.length (ys.map (.int .i64)), .snil, .int .i64 0]) := by
  have hmax : rs.length < 9223372036854775808 := by have := hv.2.2.1; omega
  have hn1 := hv.1
  have hn2 := hv.2.1
  have hA := twoA_ok
  refine WF.fnE rfl (fn_of Try.func15 cir15) (by show 2 ≤ 58; decide) ?_
  unfold ir15
  simp only [padTo, List.replicate, List.nil_append, List.append_nil, List.cons_append]
  repeat' (first | (refine WO.yes rfl ?_) | (refine WO.noE rfl (by simp only [pt8, pt0, pt1, pt2, pt3, pt4, pt5, pt6, pt7]; rfl) ?_) | (refine WO.opE (by intro; simp (disch := omega) only [go_sem, Zz.look, Zz.over, Zz.cut, Nat.reduceAdd, Nat.reduceMul, Nat.reduceSub, Nat.reduceLeDiff, Nat.reduceEqDiff, Int.reduceNeg, Int.reduceAdd, Int.reduceToNat, reduceIte, reduceCtorEq, zeros_int, zeros_bool, if_pos]; rfl) (by simp only [pt8, pt0, pt1, pt2, pt3, pt4, pt5, pt6, pt7]; rfl) ?_) | (refine WO.opN (by intro; simp (disch := omega) only [go_sem, Zz.look, Zz.over, Zz.cut, Nat.reduceAdd, Nat.reduceMul, Nat.reduceSub, Nat.reduceLeDiff, Nat.reduceEqDiff, Int.reduceNeg, Int.reduceAdd, Int.reduceToNat, reduceIte, reduceCtorEq, zeros_int, zeros_bool, if_pos]; rfl) ?_) | (refine WO.opE (by intro; exact ev_lenS (by simp only [go_sem]; first | rfl | assumption)) (by simp only [pt8, pt0, pt1, pt2, pt3, pt4, pt5, pt6, pt7]; rfl) ?_) | (refine WO.specE rfl rfl (s13 hl hmax) (by simp only [pt8, pt0, pt1, pt2, pt3, pt4, pt5, pt6, pt7]; rfl) ?_) | (refine WO.specE rfl rfl (h30 _) (by simp only [pt8, pt0, pt1, pt2, pt3, pt4, pt5, pt6, pt7]; rfl) ?_) | (refine WC.seq ?_) | (refine WC.region ?_) | (refine WO.nil ?_) | (simp only [fl1, fl2, fl3, fl4, fl5, fl6, fl7, fl8, fl9, fl10, Nat.reduceBEq]) | (refine WC.calm rfl ?_) | (refine WC.drawT ?_) | (refine WC.yes rfl ?_) | (refine WC.no rfl ?_) | (refine WC.skip ?_) | (refine WC.exit ?_) | (refine WC.ret ?_) | (refine WC.block ?_) | (refine WO.em2 rfl (by intro hp; simp only [hp, decide_true]; rfl) (by intro hp; simp only [hp, decide_false]; rfl) (fun hp => ?_) (fun hp => ?_) <;> try (exfalso; first | omega | contradiction)) | (refine WC.em2 rfl (fun hp => ?_) (fun hp => ?_) <;> try (exfalso; first | omega | contradiction)))
  have e0 : ([some ⟨0, (List.replicate n.toNat (0 : Int)).map (.int .i64)⟩, some ⟨0, (List.replicate n.toNat false).map .bool⟩] : Hp) = twoA (List.replicate n.toNat 0) (List.replicate n.toNat false) ++ [] := rfl
  rw [e0]
  clear e0
  generalize hAA : twoA = A at *
  refine WC.loopI (fun m s => ∃ T i sz dn R, s = ⟨T, A sz dn ++ R, []⟩ ∧ T.length = 58 ∧ gt T 0 = .int .i64 n ∧ gt T 1 = l ∧ gt T 7 = .sref 0 0 0 1 n.toNat (some n.toNat) ∧ gt T 8 = .sref 1 0 0 1 n.toNat (some n.toNat) ∧ gt T 9 = .int .i64 (i : Nat) ∧ i ≤ n.toNat ∧ m + i = n.toNat ∧ Doing rs n.toNat i sz dn) ?_ n.toNat _ ⟨_, 0, _, _, _, rfl, rfl, rfl, rfl, rfl, rfl, rfl, by omega, by omega, Doing.start rs n.toNat⟩
  rintro m _ ⟨T, i, sz, dn, R, rfl, hT, g0, g1, g7, g8, g9, hi, hm, hdo⟩
  obtain ⟨f, rfl⟩ := ex58 hT
  clear hT
  replace g0 : f 0 = .int .i64 n := g0
  replace g1 : f 1 = l := g1
  replace g7 : f 7 = .sref 0 0 0 1 n.toNat (some n.toNat) := g7
  replace g8 : f 8 = .sref 1 0 0 1 n.toNat (some n.toNat) := g8
  replace g9 : f 9 = .int .i64 (i : Nat) := g9
  simp only [g0, g1, g7, g8, g9]
  have hls := hdo.1
  have hld := hdo.2.1
  by_cases hin : i < n.toNat
  · obtain ⟨X, xs, xd, hX, hxr, _, h31⟩ := s31 hv hl (i := i) (by omega) hp0
    obtain ⟨x1, x2, x3⟩ := hxr
    have hxs : IntS (.sval true n.toNat (xs.map (.int .i64))) xs := by
      have := IntS.mk xs true
      rwa [x1] at this
    repeat' (first | (refine WO.yes rfl ?_) | (refine WO.noE rfl (by simp only [pt8, pt0, pt1, pt2, pt3, pt4, pt5, pt6, pt7]; rfl) ?_) | (refine WO.opE (by intro; simp (disch := first | omega | (simp only [hA.len])) only [go_sem, zeros, List.append_assoc, List.length_append, ov_all2, Nat.reduceAdd, Nat.reduceMul, Nat.reduceSub, Nat.reduceLeDiff, Nat.reduceEqDiff, Int.reduceNeg, Int.reduceAdd, Int.reduceToNat, reduceIte, reduceCtorEq, hA.len, hA.l1, hA.l2, hA.s1, hA.s2, Nat.mul_one, ia_sref, int_at, int_over, bool_at, bool_over, lk0, lk1, st0, st1, lkr00, str00, lkr00, str00]; rfl) (by simp only [pt8, pt0, pt1, pt2, pt3, pt4, pt5, pt6, pt7]; rfl) ?_) | (refine WO.opN (by intro; simp (disch := first | omega | (simp only [hA.len])) only [go_sem, zeros, List.append_assoc, List.length_append, ov_all2, Nat.reduceAdd, Nat.reduceMul, Nat.reduceSub, Nat.reduceLeDiff, Nat.reduceEqDiff, Int.reduceNeg, Int.reduceAdd, Int.reduceToNat, reduceIte, reduceCtorEq, hA.len, hA.l1, hA.l2, hA.s1, hA.s2, Nat.mul_one, ia_sref, int_at, int_over, bool_at, bool_over, lk0, lk1, st0, st1, lkr00, str00, lkr00, str00]; rfl) ?_) | (refine WO.opE (by intro; exact ev_lenS (by simp only [go_sem]; first | rfl | assumption)) (by simp only [pt8, pt0, pt1, pt2, pt3, pt4, pt5, pt6, pt7]; rfl) ?_) | (refine WO.specE rfl rfl (h31 _) (by simp only [pt8, pt0, pt1, pt2, pt3, pt4, pt5, pt6, pt7]; rfl) ?_) | (refine WC.seq ?_) | (refine WC.region ?_) | (refine WO.nil ?_) | (simp only [fl1, fl2, fl3, fl4, fl5, fl6, fl7, fl8, fl9, fl10, Nat.reduceBEq]) | (refine WC.calm rfl ?_) | (refine WC.drawT ?_) | (refine WC.yes rfl ?_) | (refine WC.no rfl ?_) | (refine WC.skip ?_) | (refine WC.exit ?_) | (refine WC.ret ?_) | (refine WC.block ?_) | (refine WO.em2 rfl (by intro hp; simp only [hp, decide_true]; rfl) (by intro hp; simp only [hp, decide_false]; rfl) (fun hp => ?_) (fun hp => ?_) <;> try (exfalso; first | omega | contradiction)) | (refine WC.em2 rfl (fun hp => ?_) (fun hp => ?_) <;> try (exfalso; first | omega | contradiction)))
    · exact ⟨m - 1, by omega, _, i + 1, sz, dn, _, rfl, rfl, rfl, rfl, rfl, rfl, rfl, by omega, by omega, hdo.skip hin hp⟩
    have hnd := hp
    refine WC.loopI (fun m' s => ∃ T k sz' dn', s = ⟨T, A sz' dn' ++ (R ++ [some ⟨0, [.sval true n.toNat (xs.map (.int .i64)), .sval true n.toNat (xd.map .bool)]⟩]), []⟩ ∧ T.length = 58 ∧ gt T 0 = .int .i64 n ∧ gt T 1 = l ∧ gt T 7 = .sref 0 0 0 1 n.toNat (some n.toNat) ∧ gt T 8 = .sref 1 0 0 1 n.toNat (some n.toNat) ∧ gt T 9 = .int .i64 (i : Nat) ∧ gt T 10 = .pref (2 + R.length) 0 0 ∧ gt T 11 = .int .i64 (k : Nat) ∧ k ≤ n.toNat ∧ m' + k = n.toNat ∧ Half X k sz dn sz' dn') ?_ n.toNat _ ⟨_, 0, sz, dn, rfl, rfl, rfl, rfl, rfl, rfl, rfl, rfl, rfl, by omega, by omega, Half.start⟩
    clear g0 g1 g7 g8 g9 f
    rintro m' _ ⟨T, k, sz', dn', rfl, hT, g0, g1, g7, g8, g9, g10, g11, hk, hm', hh⟩
    obtain ⟨f, rfl⟩ := ex58 hT
    clear hT
    replace g0 : f 0 = .int .i64 n := g0
    replace g1 : f 1 = l := g1
    replace g7 : f 7 = .sref 0 0 0 1 n.toNat (some n.toNat) := g7
    replace g8 : f 8 = .sref 1 0 0 1 n.toNat (some n.toNat) := g8
    replace g9 : f 9 = .int .i64 (i : Nat) := g9
    replace g10 : f 10 = .pref (2 + R.length) 0 0 := g10
    replace g11 : f 11 = .int .i64 (k : Nat) := g11
    simp only [g0, g1, g7, g8, g9, g10, g11]
    have hls' := hh.1
    have hld' := hh.2.1
    by_cases hkn : k < n.toNat
    · obtain ⟨xa, xb⟩ := x3 k hkn
      have hbk := boolV_at (f := true) x2 hkn
      have hik := hxs.atI (i := (k : Int)) (by omega) (by omega)
      rw [xb] at hbk
      rw [toNat_cast, xa] at hik
      repeat' (first | (refine WO.yes rfl ?_) | (refine WO.noE rfl (by simp only [pt8, pt0, pt1, pt2, pt3, pt4, pt5, pt6, pt7]; rfl) ?_) | (refine WO.opE (by intro; simp (disch := first | omega | (simp only [hA.len])) only [go_sem, zeros, List.append_assoc, List.length_append, Nat.reduceAdd, Nat.reduceMul, Nat.reduceSub, Nat.reduceLeDiff, Nat.reduceEqDiff, Int.reduceNeg, Int.reduceAdd, Int.reduceToNat, reduceIte, reduceCtorEq, hA.len, hA.l1, hA.l2, hA.s1, hA.s2, Nat.mul_one, ia_sref, int_at, int_over, bool_at, bool_over, lk0, lk1, st0, st1, lkr00, str00, hbk, hik]; rfl) (by simp only [pt8, pt0, pt1, pt2, pt3, pt4, pt5, pt6, pt7]; rfl) ?_) | (refine WO.opN (by intro; simp (disch := first | omega | (simp only [hA.len])) only [go_sem, zeros, List.append_assoc, List.length_append, Nat.reduceAdd, Nat.reduceMul, Nat.reduceSub, Nat.reduceLeDiff, Nat.reduceEqDiff, Int.reduceNeg, Int.reduceAdd, Int.reduceToNat, reduceIte, reduceCtorEq, hA.len, hA.l1, hA.l2, hA.s1, hA.s2, Nat.mul_one, ia_sref, int_at, int_over, bool_at, bool_over, lk0, lk1, st0, st1, lkr00, str00, hbk, hik]; rfl) ?_) | (refine WO.opE (by intro; exact ev_lenS (by simp only [go_sem]; first | rfl | assumption)) (by simp only [pt8, pt0, pt1, pt2, pt3, pt4, pt5, pt6, pt7]; rfl) ?_) | (refine WC.seq ?_) | (refine WC.region ?_) | (refine WO.nil ?_) | (simp only [fl1, fl2, fl3, fl4, fl5, fl6, fl7, fl8, fl9, fl10, Nat.reduceBEq]) | (refine WC.calm rfl ?_) | (refine WC.drawT ?_) | (refine WC.yes rfl ?_) | (refine WC.no rfl ?_) | (refine WC.skip ?_) | (refine WC.exit ?_) | (refine WC.ret ?_) | (refine WC.block ?_) | (refine WO.em2 rfl (by intro hp; simp only [hp, decide_true]; rfl) (by intro hp; simp only [hp, decide_false]; rfl) (fun hp => ?_) (fun hp => ?_) <;> try (exfalso; first | omega | contradiction)) | (refine WC.em2 rfl (fun hp => ?_) (fun hp => ?_) <;> try (exfalso; first | omega | contradiction)))
      · exact ⟨m' - 1, by omega, _, k + 1, _, _, rfl, rfl, rfl, rfl, rfl, rfl, rfl, rfl, rfl, by omega, by omega, hh.yes (by omega) (by omega) hp⟩
      · exact ⟨m' - 1, by omega, _, k + 1, _, _, rfl, rfl, rfl, rfl, rfl, rfl, rfl, rfl, rfl, by omega, by omega, hh.no hp⟩
    · have hkn' : k = n.toNat := by omega
      subst hkn'
      repeat' (first | (refine WO.yes rfl ?_) | (refine WO.noE rfl (by simp only [pt8, pt0, pt1, pt2, pt3, pt4, pt5, pt6, pt7]; rfl) ?_) | (refine WO.opE (by intro; simp (disch := first | omega | (simp only [hA.len])) only [go_sem, zeros, List.append_assoc, List.length_append, Nat.reduceAdd, Nat.reduceMul, Nat.reduceSub, Nat.reduceLeDiff, Nat.reduceEqDiff, Int.reduceNeg, Int.reduceAdd, Int.reduceToNat, reduceIte, reduceCtorEq, hA.len, hA.l1, hA.l2, hA.s1, hA.s2, Nat.mul_one, ia_sref, int_at, int_over, bool_at, bool_over, lk0, lk1, st0, st1, lkr00, str00]; rfl) (by simp only [pt8, pt0, pt1, pt2, pt3, pt4, pt5, pt6, pt7]; rfl) ?_) | (refine WO.opN (by intro; simp (disch := first | omega | (simp only [hA.len])) only [go_sem, zeros, List.append_assoc, List.length_append, Nat.reduceAdd, Nat.reduceMul, Nat.reduceSub, Nat.reduceLeDiff, Nat.reduceEqDiff, Int.reduceNeg, Int.reduceAdd, Int.reduceToNat, reduceIte, reduceCtorEq, hA.len, hA.l1, hA.l2, hA.s1, hA.s2, Nat.mul_one, ia_sref, int_at, int_over, bool_at, bool_over, lk0, lk1, st0, st1, lkr00, str00]; rfl) ?_) | (refine WO.opE (by intro; exact ev_lenS (by simp only [go_sem]; first | rfl | assumption)) (by simp only [pt8, pt0, pt1, pt2, pt3, pt4, pt5, pt6, pt7]; rfl) ?_) | (refine WC.seq ?_) | (refine WC.region ?_) | (refine WO.nil ?_) | (simp only [fl1, fl2, fl3, fl4, fl5, fl6, fl7, fl8, fl9, fl10, Nat.reduceBEq]) | (refine WC.calm rfl ?_) | (refine WC.drawT ?_) | (refine WC.yes rfl ?_) | (refine WC.no rfl ?_) | (refine WC.skip ?_) | (refine WC.exit ?_) | (refine WC.ret ?_) | (refine WC.block ?_) | (refine WO.em2 rfl (by intro hp; simp only [hp, decide_true]; rfl) (by intro hp; simp only [hp, decide_false]; rfl) (fun hp => ?_) (fun hp => ?_) <;> try (exfalso; first | omega | contradiction)) | (refine WC.em2 rfl (fun hp => ?_) (fun hp => ?_) <;> try (exfalso; first | omega | contradiction)))
      exact ⟨m - 1, by omega, _, i + 1, _, _, _, rfl, rfl, rfl, rfl, rfl, rfl, rfl, by omega, by omega, hdo.next hin hnd hX (by rw [← hls] at hh ⊢; exact hh)⟩
  · have hin' : i = n.toNat := by omega
    subst hin'
    repeat' (first | (refine WO.yes rfl ?_) | (refine WO.noE rfl (by simp only [pt8, pt0, pt1, pt2, pt3, pt4, pt5, pt6, pt7]; rfl) ?_) | (refine WO.opE (by intro; simp (disch := first | omega | (simp only [hA.len])) only [go_sem, zeros, List.append_assoc, List.length_append, Nat.reduceAdd, Nat.reduceMul, Nat.reduceSub, Nat.reduceLeDiff, Nat.reduceEqDiff, Int.reduceNeg, Int.reduceAdd, Int.reduceToNat, reduceIte, reduceCtorEq, hA.len, hA.l1, hA.l2, hA.s1, hA.s2, Nat.mul_one, ia_sref, int_at, int_over, bool_at, bool_over, lk0, lk1, st0, st1, lkr00, str00]; rfl) (by simp only [pt8, pt0, pt1, pt2, pt3, pt4, pt5, pt6, pt7]; rfl) ?_) | (refine WO.opN (by intro; simp (disch := first | omega | (simp only [hA.len])) only [go_sem, zeros, List.append_assoc, List.length_append, Nat.reduceAdd, Nat.reduceMul, Nat.reduceSub, Nat.reduceLeDiff, Nat.reduceEqDiff, Int.reduceNeg, Int.reduceAdd, Int.reduceToNat, reduceIte, reduceCtorEq, hA.len, hA.l1, hA.l2, hA.s1, hA.s2, Nat.mul_one, ia_sref, int_at, int_over, bool_at, bool_over, lk0, lk1, st0, st1, lkr00, str00]; rfl) ?_) | (refine WO.opE (by intro; exact ev_lenS (by simp only [go_sem]; first | rfl | assumption)) (by simp only [pt8, pt0, pt1, pt2, pt3, pt4, pt5, pt6, pt7]; rfl) ?_) | (refine WC.seq ?_) | (refine WC.region ?_) | (refine WO.nil ?_) | (simp only [fl1, fl2, fl3, fl4, fl5, fl6, fl7, fl8, fl9, fl10, Nat.reduceBEq]) | (refine WC.calm rfl ?_) | (refine WC.drawT ?_) | (refine WC.yes rfl ?_) | (refine WC.no rfl ?_) | (refine WC.skip ?_) | (refine WC.exit ?_) | (refine WC.ret ?_) | (refine WC.block ?_) | (refine WO.em2 rfl (by intro hp; simp only [hp, decide_true]; rfl) (by intro hp; simp only [hp, decide_false]; rfl) (fun hp => ?_) (fun hp => ?_) <;> try (exfalso; first | omega | contradiction)) | (refine WC.em2 rfl (fun hp => ?_) (fun hp => ?_) <;> try (exfalso; first | omega | contradiction)))
    have hsz : Sized rs n.toNat sz := hdo.done hv (p := p) (fun i hi => by
      obtain ⟨X, _, _, hX, _⟩ := s31 hv hl (i := i) hi hp0
      exact ⟨X, hX⟩)
    refine ⟨_, rfl, sz, hsz, ?_⟩
    have h1 := resC_ints (H := A sz dn ++ R) (id := 0) (g := 0) (n := n.toNat) (cap := some n.toNat) (c := sz) (hA.l1 _ _ _) hls
    simp only [oneRes, St.mem, resV, resT, resA, h1, gt8, gt0, gt1, gt2, gt3, gt4, gt5, gt6, gt7, hls, beq_self_eq_true]
    rfl
/-- What the reference's Solve answers. -/
theorem s15 {n : Int} {rs : List Rg} {l : AV} (hl : RdL l rs) (hmax : rs.length < 9223372036854775808) :
    (¬ VL n rs → ∀ m, borrowE F2 15 [.int .i64 n, l] m = some (.tuple [.snil, .snil, .int .i64 1], m)) ∧
    (VL n rs → (∃ ch, Contra rs ch) → ∀ m, borrowE F2 15 [.int .i64 n, l] m = some (.tuple [.snil, .snil, .int .i64 23], m)) ∧
    (VL n rs → (∃ p, Pot rs p) → ∃ ys, Sized rs n.toNat ys ∧ ∀ m, borrowE F2 15 [.int .i64 n, l] m = some (.tuple [.sval true ys.length (ys.map (.int .i64)), .snil, .int .i64 0], m)) := by
  refine ⟨fun hv m => borrowE_of (pures_cons rfl (pures_cons hl.pureA rfl)) ((f15bad hv hl hmax).mono fun y m' h => by rw [h]; rfl), fun hv hc m => borrowE_of (pures_cons rfl (pures_cons hl.pureA rfl)) ((f15lie hv hl ((s30 hv hl).2 hc)).mono fun y m' h => by rw [h]; rfl), fun hv hp => ?_⟩
  have h30 := (s30 hv hl).1 hp
  obtain ⟨p, hp⟩ := hp
  obtain ⟨k, y, m', h, ys, hs, hr⟩ := (f15 hv hl hp h30).ex
  exact ⟨ys, hs, fun m => borrowE_of (pures_cons rfl (pures_cons hl.pureA rfl)) ⟨⟨k, y, m', h, hr⟩⟩⟩

noncomputable def F3 : Env := F2.put 15 (borrowE F2 15)
theorem F3_ok : EnvOk Try.prog F3 := Env.put_ok F2_ok (borrowE_ok F2_ok (callable Try.func15 (by kernel_rfl)))
end Go.Proofs.Ytndaljjljmmlcaa

