import Derived.Test.YtnilimjkibimcaaQi
import Derived.Test.YtnilimjkibimcaaPn
set_option linter.unusedSimpArgs false
set_option linter.unusedVariables false

namespace Go.Proofs.Ytnilimjkibimcaa
open Go.Zz
set_option maxRecDepth 100000
set_option maxHeartbeats 4000000
theorem wrapI (n : Int) : (∃ t, IntKind.wrap .i64 n = n + 18446744073709551616 * t) ∧ -9223372036854775808 ≤ IntKind.wrap .i64 n ∧ IntKind.wrap .i64 n ≤ 9223372036854775807 := by
  rw [IntKind.wrap_i64]
  exact ⟨⟨-((n + 9223372036854775808) / 18446744073709551616), by omega⟩, by omega, by omega⟩
theorem f89w {l : AV} {rows : List (List Int)} (hl : RwL l rows) (he : Bd6 rows) (hrl : rows.length < 9223372036854775807) {L : List (Option ALoop)} :
    ∀ (is : List Nat) (iv jv : AV) (js : List Nat) (H : Hp), NatS iv is → JS H jv js → okI rows is → (∀ j ∈ js, j < 6) → is.length ≤ js.length → is.length < 1000000 → js.length < 1000000 →
      WF G0 (.func 89 [] []) [l, iv, jv] ⟨H, L⟩ fun v m' => ∃ r, v = .int .i64 r ∧ (∃ t, r = minorF (ent rows) is js + 18446744073709551616 * t) ∧ (-9223372036854775808 ≤ r ∧ r ≤ 9223372036854775807) ∧ ∃ R, m' = ⟨H ++ R, L⟩
  | [], iv, jv, js, H, hiv, hjs, hi, hj, hle, hil, hjl => by
    have hivl := hiv.len
    refine WF.fnE rfl (fn_of Try.func89 cir89) (by show 3 ≤ 58; decide) ?_
    unfold ir89; dsimp only [k0, kI, mV, oO, oG]
    simp only [padTo, List.replicate, List.nil_append, List.append_nil, List.cons_append]
    repeat' (first | (refine WO.opE (by intro; simp (disch := omega) only [go_sem, zeros, List.append_assoc, List.length_append, ov_one0, ov_all2, Nat.reduceAdd, Nat.reduceMul, Nat.reduceSub, Nat.reduceLeDiff, Nat.reduceEqDiff, Int.reduceNeg, Int.reduceAdd, Int.reduceToNat, reduceIte, reduceCtorEq]; rfl) (by simp only [pt8, pt0, pt1, pt2, pt3, pt4, pt5, pt6, pt7]; rfl) ?_) | (refine WO.opE (by intro; exact ev_lenS (by simp only [go_sem]; first | rfl | assumption)) (by simp only [pt8, pt0, pt1, pt2, pt3, pt4, pt5, pt6, pt7]; rfl) ?_) | (refine WC.seq ?_) | (refine WC.region ?_) | (refine WO.nil ?_) | (simp only [fl1, fl2, fl3, fl4, fl5, fl6, fl7, fl8, fl9, fl10, Nat.reduceBEq]) | (refine WC.yes rfl ?_) | (refine WC.ret ?_))
    exact ⟨_, rfl, 1, rfl, ⟨0, rfl⟩, by decide, [], by rw [List.append_nil]; rfl⟩
  | ii :: is', iv, jv, js, H, hiv, hjs, hi, hj, hle, hil, hjl => by
    have hivl := hiv.len
    have hjvl := hjs.len
    have hii := hi ii (by simp)
    obtain ⟨t1, hat1⟩ := hiv.at (k := 0) (by simp)
    have hat1' : indexAddrAV 1 iv (.int .i64 0) = some (.pval (.int .i64 ((ii : Nat) : Int) :: t1)) := hat1
    obtain ⟨iv', hsl, hiv'⟩ := hiv.tail
    have h6 := hl.six hii
    have hrow := hl.at hii
    have hoI : okI rows is' := fun x hx => hi x (by simp [hx])
    refine WF.fnE rfl (fn_of Try.func89 cir89) (by show 3 ≤ 58; decide) ?_
    unfold ir89; dsimp only [k0, kI, mV, oO, oG]
    simp only [padTo, List.replicate, List.nil_append, List.append_nil, List.cons_append]
    repeat' (first | (refine WO.opE (by intro; simp (disch := omega) only [go_sem, zeros, List.append_assoc, List.length_append, ov_one0, ov_all2, Nat.reduceAdd, Nat.reduceMul, Nat.reduceSub, Nat.reduceLeDiff, Nat.reduceEqDiff, Int.reduceNeg, Int.reduceAdd, Int.reduceToNat, reduceIte, reduceCtorEq]; rfl) (by simp only [pt8, pt0, pt1, pt2, pt3, pt4, pt5, pt6, pt7]; rfl) ?_) | (refine WO.opE (by intro; exact ev_lenS (by simp only [go_sem]; first | rfl | assumption)) (by simp only [pt8, pt0, pt1, pt2, pt3, pt4, pt5, pt6, pt7]; rfl) ?_) | (refine WC.seq ?_) | (refine WC.region ?_) | (refine WO.nil ?_) | (simp only [fl1, fl2, fl3, fl4, fl5, fl6, fl7, fl8, fl9, fl10, Nat.reduceBEq]) | (refine WC.no rfl ?_) | (refine WC.skip ?_) | (refine WC.block ?_))
    refine WC.loopI (fun m st => ∃ T R k S0 s0, st = ⟨T, H ++ R, L⟩ ∧ T.length = 58 ∧ gt T 0 = l ∧ gt T 1 = iv ∧ gt T 2 = jv ∧ gt T 7 = .int .i64 S0 ∧ gt T 8 = .int .i64 s0 ∧ gt T 9 = .int .i64 (k : Nat) ∧ m + k = js.length ∧ (∃ t, S0 = altS (fun p => ent rows ii (js.getD p 0) * minorF (ent rows) is' (js.eraseIdx p)) k + 18446744073709551616 * t) ∧ (-9223372036854775808 ≤ S0 ∧ S0 ≤ 9223372036854775807) ∧ s0 = sg k) ?_ js.length _ ⟨_, [], 0, 0, 1, by rw [List.append_nil], rfl, rfl, rfl, rfl, rfl, rfl, rfl, by omega, ⟨0, rfl⟩, by decide, rfl⟩
    rintro m _ ⟨T, R, k, S0, s0, rfl, hT, g0, g1, g2, g7, g8, g9, hm, hS0, hS9, hs0⟩
    obtain ⟨f, rfl⟩ := ex58 hT
    clear hT
    replace g0 : f 0 = l := g0
    replace g1 : f 1 = iv := g1
    replace g2 : f 2 = jv := g2
    replace g7 : f 7 = .int .i64 S0 := g7
    replace g8 : f 8 = .int .i64 s0 := g8
    replace g9 : f 9 = .int .i64 (k : Nat) := g9
    simp only [g0, g1, g2, g7, g8, g9]
    have hjR := hjs.ext (Ext.app H R)
    by_cases hk : k < js.length
    · have hkj := hj _ (getD_mem hk)
      obtain ⟨y, hy1, hy2, _⟩ := hjR.at hk
      have hdr := dr_row (r := rw_ rows ii) (t := tailr rows ii) (j := js.getD k 0) (by omega)
      have hx1 := he ii (js.getD k 0) hii hkj
      have hent : ent rows ii (js.getD k 0) = (rw_ rows ii).getD (js.getD k 0) 0 := rfl
      rw [hent] at hx1
      have hnx : altS (fun p => ent rows ii (js.getD p 0) * minorF (ent rows) is' (js.eraseIdx p)) (k + 1) = altS (fun p => ent rows ii (js.getD p 0) * minorF (ent rows) is' (js.eraseIdx p)) k + sg k * ((rw_ rows ii).getD (js.getD k 0) 0 * minorF (ent rows) is' (js.eraseIdx k)) := by
        simp only [altS, hent]
      have hsg := sg_succ k
      have hso := sg_or k
      rw [← hs0] at hnx
      rw [← hs0] at hsg hso
      have hB : Ext (H ++ R) ((H ++ R) ++ [(some ⟨0, []⟩ : Option Blk)]) := Ext.app _ _
      obtain ⟨x1, e1, e1l, e1c⟩ := (hjR.ext hB).take (k := k) (by omega)
      obtain ⟨x2, e2, e2l, e2c⟩ := hjR.drop (k := k + 1) (by omega)
      have hcast : (((k + 1 : Nat) : Int)) = (k : Int) + 1 := by omega
      rw [hcast] at e2
      have heq : js.take k ++ js.drop (k + 1) = js.eraseIdx k := (List.eraseIdx_eq_take_drop_succ js k).symm
      have g0 : GS 1 ((H ++ R) ++ [(some ⟨0, []⟩ : Option Blk)]) (.sref (H ++ R).length 0 0 1 0 (some 0)) (H ++ R).length [] := .inr (.inl ⟨0, rfl, rfl, lk0 rfl⟩)
      obtain ⟨v1, q1, H1, a1, a2, a3, a4, a5⟩ := g0.appendX (L := L) (bytes := 8) (n := k) e1c e1l (by rw [ncells_len, List.length_take]; omega) Nat.one_pos ⟨by simp; omega, by simp; omega⟩
      rw [List.nil_append] at a2
      have hE1 : Ext (H ++ R) H1 := ⟨by simp at a4 ⊢; omega, fun j hj' => by rw [a5 j (by simp at hj' ⊢; omega) (by omega), hB.2 j hj']⟩
      obtain ⟨v2, q2, H2, c1, c2, c3, c4, c5⟩ := a2.appendX (L := L) (bytes := 8) (n := js.length - (k + 1)) (scells_ext hE1 e2c) e2l (by rw [ncells_len, List.length_drop]; omega) Nat.one_pos ⟨by rw [ncells_len, List.length_take, Nat.div_one]; omega, by rw [ncells_len, List.length_take, Nat.div_one]; omega⟩
      rw [← ncells_app, heq] at c2
      have hq1 : (H ++ R).length ≤ q1 := by rcases a3 with rfl | rfl; exact Nat.le_refl _; exact (by simp)
      have hE2 : Ext (H ++ R) H2 := ⟨Nat.le_trans hE1.1 c4, fun j hj' => by rw [c5 j (by have := hE1.1; omega) (by omega), hE1.2 j hj']⟩
      have hjs2 := JS.of_gs c2
      obtain ⟨R2, hR2⟩ := hE2.split
      subst hR2
      rw [List.length_append] at a1
      have ih := f89w hl he hrl (L := L) is' iv' v2 (js.eraseIdx k) _ hiv' hjs2 hoI (fun j hj' => hj j (List.mem_of_mem_eraseIdx hj')) (by rw [List.length_eraseIdx]; simp at hle; split <;> omega) (by simp at hil; omega) (by rw [List.length_eraseIdx]; split <;> omega)
      generalize hS1 : altS (fun p => ent rows ii (js.getD p 0) * minorF (ent rows) is' (js.eraseIdx p)) (k + 1) = S1 at *
      generalize altS (fun p => ent rows ii (js.getD p 0) * minorF (ent rows) is' (js.eraseIdx p)) k = Sk at *
      generalize minorF (ent rows) is' (js.eraseIdx k) = M at *
      generalize hxx : (rw_ rows ii).getD (js.getD k 0) 0 = x at *
      generalize hs1g : sg (k + 1) = s1 at *
      have hsx : -9000000000 ≤ s0 * x ∧ s0 * x ≤ 9000000000 := by rcases hso with h | h <;> rw [h] <;> omega
      have hneg : -s0 = s1 := by omega
      obtain ⟨t0, ht0⟩ := hS0
      by_cases hx0 : x = 0
      · have hx01 := hx0
        have hSS : S1 = Sk := by rw [hx0, Int.zero_mul, Int.mul_zero] at hnx; omega
        repeat' (first | (refine WO.opE (by intro; simp (disch := omega) only [go_sem, zeros, List.append_assoc, List.length_append, ov_one0, ov_all2, Nat.reduceAdd, Nat.reduceMul, Nat.reduceSub, Nat.reduceLeDiff, Nat.reduceEqDiff, Int.reduceNeg, Int.reduceAdd, Int.reduceToNat, reduceIte, reduceCtorEq, hat1', hy1, hy2, hrow, hdr, Nat.mul_one, Int.zero_sub]; rfl) (by simp only [pt8, pt0, pt1, pt2, pt3, pt4, pt5, pt6, pt7]; rfl) ?_) | (refine WO.opE (by intro; exact ev_lenS (by simp only [go_sem]; first | rfl | assumption)) (by simp only [pt8, pt0, pt1, pt2, pt3, pt4, pt5, pt6, pt7]; rfl) ?_) | (refine WO.opE (by intro; show (loadAV _ _ _ y).map _ = _; rw [hy2]; rfl) (by simp only [pt8, pt0, pt1, pt2, pt3, pt4, pt5, pt6, pt7]; rfl) ?_) | (refine WC.seq ?_) | (refine WC.region ?_) | (refine WO.nil ?_) | (simp only [fl1, fl2, fl3, fl4, fl5, fl6, fl7, fl8, fl9, fl10, Nat.reduceBEq]) | (refine WC.calm rfl ?_) | (refine WC.skip ?_) | (refine WC.block ?_) | (refine WC.em2 rfl (fun hp => ?_) (fun hp => ?_) <;> try (exfalso; first | omega | contradiction)))
        exact ⟨m - 1, by omega, _, R, k + 1, S0, -s0, rfl, rfl, rfl, rfl, rfl, rfl, rfl, rfl, by omega, ⟨t0, by rw [hS1]; omega⟩, hS9, by rw [hs1g]; exact hneg⟩
      · have hx01 := hx0
        repeat' (first | (refine WO.opE (by intro; simp (disch := omega) only [go_sem, zeros, List.length_append, ov_one0, ov_all2, Nat.reduceAdd, Nat.reduceMul, Nat.reduceSub, Nat.reduceLeDiff, Nat.reduceEqDiff, Int.reduceNeg, Int.reduceAdd, Int.reduceToNat, reduceIte, reduceCtorEq, hat1', hy1, hy2, hrow, hdr, e1, e2, hsl, Option.map_none, Option.map_some, Nat.mul_one, Int.zero_sub]; rfl) (by simp only [pt8, pt0, pt1, pt2, pt3, pt4, pt5, pt6, pt7]; rfl) ?_) | (refine WO.opE (by intro; exact ev_lenS (by simp only [go_sem]; first | rfl | assumption)) (by simp only [pt8, pt0, pt1, pt2, pt3, pt4, pt5, pt6, pt7]; rfl) ?_) | (refine WO.opE (by intro; show (loadAV _ _ _ y).map _ = _; rw [hy2]; rfl) (by simp only [pt8, pt0, pt1, pt2, pt3, pt4, pt5, pt6, pt7]; rfl) ?_) | (refine WC.seq ?_) | (refine WC.region ?_) | (refine WO.nil ?_) | (simp only [fl1, fl2, fl3, fl4, fl5, fl6, fl7, fl8, fl9, fl10, Nat.reduceBEq]) | (refine WC.calm rfl ?_) | (refine WC.drawT ?_) | (refine WT.free rfl (by intro; simp (disch := omega) only [go_sem, zeros, List.length_append, ov_one0, ov_all2, Nat.reduceAdd, Nat.reduceMul, Nat.reduceSub, Nat.reduceLeDiff, Nat.reduceEqDiff, Int.reduceNeg, Int.reduceAdd, Int.reduceToNat, reduceIte, reduceCtorEq, hat1', hy1, hy2, hrow, hdr, e1, e2, hsl, Option.map_none, Option.map_some, Nat.mul_one, Int.zero_sub]; rfl) rfl (by simp only [pt8, pt0, pt1, pt2, pt3, pt4, pt5, pt6, pt7]; rfl) ?_) | (refine WT.big rfl rfl (by intro; simp (disch := omega) only [go_sem, zeros, List.length_append, ov_one0, ov_all2, Nat.reduceAdd, Nat.reduceMul, Nat.reduceSub, Nat.reduceLeDiff, Nat.reduceEqDiff, Int.reduceNeg, Int.reduceAdd, Int.reduceToNat, reduceIte, reduceCtorEq, hat1', hy1, hy2, hrow, hdr, e1, e2, hsl, Option.map_none, Option.map_some, Nat.mul_one, Int.zero_sub]; rfl) (by simp (disch := omega) only [go_sem, zeros, List.length_append, ov_one0, ov_all2, Nat.reduceAdd, Nat.reduceMul, Nat.reduceSub, Nat.reduceLeDiff, Nat.reduceEqDiff, Int.reduceNeg, Int.reduceAdd, Int.reduceToNat, reduceIte, reduceCtorEq, hat1', hy1, hy2, hrow, hdr, e1, e2, hsl, Option.map_none, Option.map_some, Nat.mul_one, Int.zero_sub, touch]; rfl) (by first | exact .inl rfl | exact .inr (apart_nil _) | exact .inr trivial | (right; apply apart_mk; simp only [apartL, List.nil_append, List.cons_append, List.getElem?_cons_succ, List.getElem?_cons_zero, Tch.free, and_true, true_and]; first | done | omega)) (by simp only [pt8, pt0, pt1, pt2, pt3, pt4, pt5, pt6, pt7]; rfl) ?_) | (refine WC.skip ?_) | (refine WC.block ?_) | (refine WC.em2 rfl (fun hp => ?_) (fun hp => ?_) <;> try (exfalso; first | omega | contradiction)))
        have hap : ∀ tch : List Tch, tch[0]? = some (.blk (H.length + R.length)) → apartT tch [0] (slBlk jv) := fun tch ht => by
          rcases hjs with (⟨rfl, _⟩ | ⟨f, rfl⟩) | ⟨q, g, cap, rfl, h1, _⟩
          · trivial
          · trivial
          · refine apart_mk ?_
            have := look_lt h1
            simp only [apartL, ht, Tch.free, and_true]
            omega
        have hap7 : ∀ (tch : List Tch) (t : Tch), tch[7]? = some .none → apartT tch [7] t := fun tch t ht => by
          cases t <;> simp [apartT, ht, Tch.free]
        refine WT.big (t := slBlk jv) rfl rfl (by intro; rw [ev_slice]; show (sliceAV _ 1 jv none (some (.int .i64 (k : Int))) none).map _ = _; rw [e1]; rfl) rfl (.inr (hap _ rfl)) (by simp only [pt8, pt0, pt1, pt2, pt3, pt4, pt5, pt6, pt7]; rfl) ?_
        repeat' (first | (refine WT.free rfl (by intro; simp (disch := omega) only [go_sem, zeros, List.length_append, ov_one0, ov_all2, Nat.reduceAdd, Nat.reduceMul, Nat.reduceSub, Nat.reduceLeDiff, Nat.reduceEqDiff, Int.reduceNeg, Int.reduceAdd, Int.reduceToNat, reduceIte, reduceCtorEq, e2, hsl, Option.map_none, Option.map_some]; rfl) rfl (by simp only [pt8, pt0, pt1, pt2, pt3, pt4, pt5, pt6, pt7]; rfl) ?_) | (refine WT.big rfl rfl (by intro; simp (disch := omega) only [go_sem, zeros, List.length_append, ov_one0, ov_all2, Nat.reduceAdd, Nat.reduceMul, Nat.reduceSub, Nat.reduceLeDiff, Nat.reduceEqDiff, Int.reduceNeg, Int.reduceAdd, Int.reduceToNat, reduceIte, reduceCtorEq, e2, hsl, Option.map_none, Option.map_some]; rfl) (by simp (disch := omega) only [go_sem, zeros, List.length_append, ov_one0, ov_all2, Nat.reduceAdd, Nat.reduceMul, Nat.reduceSub, Nat.reduceLeDiff, Nat.reduceEqDiff, Int.reduceNeg, Int.reduceAdd, Int.reduceToNat, reduceIte, reduceCtorEq, e2, hsl, Option.map_none, Option.map_some, touch]; rfl) (by first | exact .inl rfl | exact .inr (apart_nil _) | exact .inr trivial | (right; apply apart_mk; simp only [apartL, List.nil_append, List.cons_append, List.getElem?_cons_succ, List.getElem?_cons_zero, Tch.free, and_true, true_and]; first | done | omega)) (by simp only [pt8, pt0, pt1, pt2, pt3, pt4, pt5, pt6, pt7]; rfl) ?_))
        refine WT.append (sv := .sref (H.length + R.length) 0 0 1 0 (some 0)) (xv := x1) rfl rfl a1 (hap7 _ _ rfl) (hap7 _ _ rfl) (by simp only [pt8, pt0, pt1, pt2, pt3, pt4, pt5, pt6, pt7]; rfl) ?_
        refine WT.append (sv := v1) (xv := x2) rfl rfl c1 (apart_nil _) (apart_nil _) (by simp only [pt8, pt0, pt1, pt2, pt3, pt4, pt5, pt6, pt7]; rfl) ?_
        repeat' (first | (refine WO.opE (by intro; simp (disch := omega) only [go_sem, zeros, List.length_append, ov_one0, ov_all2, Nat.reduceAdd, Nat.reduceMul, Nat.reduceSub, Nat.reduceLeDiff, Nat.reduceEqDiff, Int.reduceNeg, Int.reduceAdd, Int.reduceToNat, reduceIte, reduceCtorEq, hsl, Option.map_none, Option.map_some]; rfl) (by simp only [pt8, pt0, pt1, pt2, pt3, pt4, pt5, pt6, pt7]; rfl) ?_) | (refine WC.region ?_) | (simp only [fl1, fl2, fl3, fl4, fl5, fl6, fl7, fl8, fl9, fl10, Nat.reduceBEq]) | (refine WT.nil ?_) | (refine WT.free rfl (by intro; simp (disch := omega) only [go_sem, zeros, List.length_append, ov_one0, ov_all2, Nat.reduceAdd, Nat.reduceMul, Nat.reduceSub, Nat.reduceLeDiff, Nat.reduceEqDiff, Int.reduceNeg, Int.reduceAdd, Int.reduceToNat, reduceIte, reduceCtorEq, hsl, Option.map_none, Option.map_some]; rfl) rfl (by simp only [pt8, pt0, pt1, pt2, pt3, pt4, pt5, pt6, pt7]; rfl) ?_))
        refine WO.call rfl rfl (ih.mono ?_)
        rintro v m' ⟨r, rfl, ⟨t1', ht1'⟩, hr9, R', rfl⟩
        simp only [pt8, pt0, pt1, pt2, pt3, pt4, pt5, pt6, pt7, gt8, gt0, gt1, gt2, gt3, gt4, gt5, gt6, gt7]
        repeat' (first | (refine WO.opE (by intro; simp (disch := omega) only [go_sem, List.append_assoc, Nat.reduceAdd, Nat.reduceMul, Nat.reduceSub, Nat.reduceLeDiff, Nat.reduceEqDiff, Int.reduceNeg, Int.reduceAdd, Int.reduceToNat, reduceIte, reduceCtorEq, Int.zero_sub]; rfl) (by simp only [pt8, pt0, pt1, pt2, pt3, pt4, pt5, pt6, pt7]; rfl) ?_) | (refine WC.region ?_) | (refine WO.nil ?_) | (simp only [fl1, fl2, fl3, fl4, fl5, fl6, fl7, fl8, fl9, fl10, Nat.reduceBEq]))
        obtain ⟨⟨t2, ht2⟩, _, _⟩ := wrapI (s0 * x * r)
        obtain ⟨⟨t3, ht3⟩, hr3, hr4⟩ := wrapI (S0 + IntKind.wrap .i64 (s0 * x * r))
        have hprod : s0 * x * r = s0 * (x * M) + 18446744073709551616 * (s0 * x * t1') := by rw [ht1']; grind
        exact ⟨m - 1, by omega, _, R ++ (R2 ++ R'), k + 1, _, -s0, rfl, rfl, rfl, rfl, rfl, rfl, rfl, rfl, by omega, ⟨t0 + s0 * x * t1' + t2 + t3, by rw [hS1, ht3, ht2, hprod, ht0, hnx]; omega⟩, ⟨hr3, hr4⟩, by rw [hs1g]; exact hneg⟩
    · have hke : k = js.length := by omega
      subst hke
      repeat' (first | (refine WO.opE (by intro; simp (disch := omega) only [go_sem, zeros, List.append_assoc, List.length_append, ov_one0, ov_all2, Nat.reduceAdd, Nat.reduceMul, Nat.reduceSub, Nat.reduceLeDiff, Nat.reduceEqDiff, Int.reduceNeg, Int.reduceAdd, Int.reduceToNat, reduceIte, reduceCtorEq]; rfl) (by simp only [pt8, pt0, pt1, pt2, pt3, pt4, pt5, pt6, pt7]; rfl) ?_) | (refine WO.opE (by intro; exact ev_lenS (by simp only [go_sem]; first | rfl | assumption)) (by simp only [pt8, pt0, pt1, pt2, pt3, pt4, pt5, pt6, pt7]; rfl) ?_) | (refine WC.seq ?_) | (refine WC.region ?_) | (refine WO.nil ?_) | (simp only [fl1, fl2, fl3, fl4, fl5, fl6, fl7, fl8, fl9, fl10, Nat.reduceBEq]) | (refine WC.exit ?_) | (refine WC.ret ?_) | (refine WC.em2 rfl (fun hp => ?_) (fun hp => ?_) <;> try (exfalso; first | omega | contradiction)))
      exact ⟨_, rfl, S0, rfl, hS0, hS9, R, rfl⟩
theorem s89w {l l' iv jv iv' jv' : AV} {rows : List (List Int)} {is js : List Nat} (hl : RwL l rows) (hiv : NatS iv is) (hjv : NatS jv js) (hi : okI rows is) (hj : ∀ j ∈ js, j < 6) (he : Bd6 rows) (hle : is.length ≤ js.length) (hil : is.length < 1000000) (hjl : js.length < 1000000) (hrl : rows.length < 9223372036854775807)
    (hr : -9000000000000000000 ≤ minorF (ent rows) is js ∧ minorF (ent rows) is js ≤ 9000000000000000000) {m : Mem} (h0 : Zz.byVal m.heap l' = some l) (h1 : Zz.byVal m.heap iv' = some iv) (h2 : Zz.byVal m.heap jv' = some jv) :
    borrowX G0 89 [l', iv', jv'] m = some (.int .i64 (minorF (ent rows) is js), m) :=
  borrowX_of (byVals_cons h0 (byVals_cons h1 (byVals_cons h2 rfl))) ((f89w hl he hrl is iv jv js [] hiv (.inl hjv) hi hj hle hil hjl).mono fun y m' h => by
    obtain ⟨r, rfl, ⟨t, ht⟩, hr9, _⟩ := h
    have : r = minorF (ent rows) is js := by omega
    rw [this]
    rfl)
theorem s40m {l : AV} {rows : List (List Int)} (hl : RwL l rows) (h6 : rows.length ≤ 6) (he : Bd6 rows) (hb : ∀ is js, Inc rows.length 0 is → is.length = rows.length → Inc 6 0 js → js.length = is.length → -1000000000 ≤ minorF (ent rows) is js ∧ minorF (ent rows) is js ≤ 1000000000) {m : Mem} :
    borrowE C2 40 [l, .int .i64 (rows.length : Nat)] m = some (.int .u64 (divRK rows rows.length : Nat), m) := by
  refine borrowE_of (pures_cons hl.pureA rfl) ((f40 hl (by omega) (by omega) (fun is js hi hj m iv jv iv' jv' n1 n2 b1 b2 => ?_) fun is js hi hj => ?_).mono fun y m' h => by rw [h]; rfl)
  · obtain ⟨i1, i2⟩ := subs_mem.1 hi
    obtain ⟨j1, j2⟩ := subs_mem.1 hj
    have hM := hb is js i1 i2 j1 (by omega)
    exact s89w hl n1 n2 (fun x hx => (i1.lt x hx).2) (fun x hx => (j1.lt x hx).2) he (by omega) (by omega) (by omega) (by omega) (by omega) (hl.byVal _) b1 b2
  · obtain ⟨i1, i2⟩ := subs_mem.1 hi
    obtain ⟨j1, j2⟩ := subs_mem.1 hj
    have hM := hb is js i1 i2 j1 (by omega)
    omega
end Go.Proofs.Ytnilimjkibimcaa

