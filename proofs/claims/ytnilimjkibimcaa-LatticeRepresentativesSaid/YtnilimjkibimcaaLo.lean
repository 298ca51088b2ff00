import Derived.Test.YtnilimjkibimcaaLm
set_option linter.unusedSimpArgs false
set_option linter.unusedVariables false

namespace Go.Proofs.Ytnilimjkibimcaa
open Go.Zz
set_option maxRecDepth 100000
set_option maxHeartbeats 8000000
theorem run16 {x y : AV} {rows : List (List Int)} {v ys : List Int} (hx : RwL x rows) (hmax : rows.length < 9223372036854775807) (hv6 : v.length = 6) (hy : SxS y ys) (hyn : ys.length < 9223372036854775808) (hyb : ∀ y ∈ ys, -32768 ≤ y ∧ y ≤ 32767) : WF N21 (.func 16 [] []) [x, .agg (icells v), y] ⟨[], []⟩ fun u m' => u = .bool true := by
  have c65 := fun m => s65 (m := m)
  have h6 : Six rows := fun i hi => hx.six hi
  have c26 := fun m => x26 (m := m) hx hmax (hx.byVal _)
  have c79 := fun m => s79 (m := m) hv6
  have hcv := icells_cut hv6
  have hvl : (icells v).length = 6 := by rw [icells_len, hv6]
  have hze : icells zer6 = [.int .i64 0, .int .i64 0, .int .i64 0, .int .i64 0, .int .i64 0, .int .i64 0] := rfl
  by_cases hv : VM rows
  · rw [decide_eq_true hv] at c26
    by_cases hok : okB 1000000000 v
    · rw [decide_eq_true hok] at c79
      have c68 := fun m => x68 (m := m) hx hmax hv6 (hx.byVal _)
      have hr6 := remD_len rows hv6
      have hcr := icells_cut hr6
      have hrl : (icells (remD rows v)).length = 6 := by rw [icells_len, hr6]
      have hor := fun x0 x1 x2 x3 x4 x5 => icells_over6 hr6 (x0 := x0) (x1 := x1) (x2 := x2) (x3 := x3) (x4 := x4) (x5 := x5)
      by_cases he : errD rows v = 0
      · rw [he] at c68
        obtain ⟨ha1, ha2⟩ := red_again h6 hv6 he
        have d68 := fun m => x68 (m := m) hx hmax hr6 (hx.byVal _)
        rw [ha1, ha2] at d68
        have hce := cellsEq_int (r := remD rows v) (r' := remD rows v) rfl
        rw [hr6, decide_eq_true rfl] at hce
        have hce : cellsEq [true, true, true, true, true, true] (icells (remD rows v)) (icells (remD rows v)) = some true := hce
        refine WF.fnE rfl (fn_of Try.func16 cir16) (by show 3 ≤ 123; decide) ?_
        unfold ir16; dsimp only [k0, kI, mV, oO, oG]
        simp only [padTo, List.replicate, List.nil_append, List.append_nil]
        repeat' (first | (refine WO.yes rfl ?_) | (refine WO.opE (by intro; simp (disch := omega) only [go_sem, Zz.look, List.cons_append, List.nil_append, Nat.reduceAdd, hcv, hcr, hce]; rfl) (by simp only [pt8, pt0, pt1, pt2, pt3, pt4, pt5, pt6, pt7]; rfl) ?_) | (refine WO.opN (by intro; simp (disch := omega) only [go_sem, Zz.look, Option.bind_eq_bind, hrl, hor, setBlk, List.set_cons_zero, List.set_cons_succ]; rfl) ?_) | (refine WO.specE rfl rfl (c65 _) (by simp only [pt8, pt4]; rfl) ?_) | (refine WO.specE rfl rfl (c26 _) (by simp only [pt8, pt6]; rfl) ?_) | (refine WO.specE rfl rfl (c79 _) (by simp only [pt8, pt2]; rfl) ?_) | (refine WO.specE rfl rfl (c68 _) (by simp only [pt8, pt1]; rfl) ?_) | (refine WO.specE rfl rfl (d68 _) (by simp only [pt8, pt6]; rfl) ?_) | (refine WC.seq ?_) | (refine WC.region ?_) | (refine WO.nil ?_) | (simp only [fl1]) | (refine WC.no rfl ?_) | (refine WC.skip ?_) | (refine WC.block ?_))
        refine WC.mono (Q := fun e s => e = .exit 0 ∧ ∃ T B w, s = ⟨T, [some ⟨0, icells v⟩, some ⟨0, icells (remD rows v)⟩, B, some ⟨0, icells w⟩], []⟩ ∧ T.length = 123 ∧ gt T 0 = x ∧ gt T 2 = y ∧ gt T 4 = .pref 0 0 0 ∧ gt T 6 = .bool false ∧ gt T 7 = .bool true ∧ gt T 8 = .pref 1 0 0 ∧ gt T 12 = .pref 3 0 0 ∧ w.length = 6 ∧ ∀ j, j < 6 → vF w j = vF v j - vF (remD rows v) j) ?_ ?_
        · refine WC.loopI (fun m s => ∃ T B w j, s = ⟨T, [some ⟨0, icells v⟩, some ⟨0, icells (remD rows v)⟩, B, some ⟨0, icells w⟩], []⟩ ∧ T.length = 123 ∧ gt T 0 = x ∧ gt T 2 = y ∧ gt T 4 = .pref 0 0 0 ∧ gt T 6 = .bool false ∧ gt T 7 = .bool true ∧ gt T 8 = .pref 1 0 0 ∧ gt T 12 = .pref 3 0 0 ∧ gt T 59 = .int .i64 (j : Nat) ∧ m + j = 6 ∧ w.length = 6 ∧ ∀ t, t < j → w.getD t 0 = v.getD t 0 - (remD rows v).getD t 0) ?_ 6 _ ⟨_, _, zer6, 0, rfl, rfl, rfl, rfl, rfl, rfl, rfl, rfl, rfl, rfl, by omega, rfl, fun t ht => by omega⟩
          rintro m _ ⟨T, B, w, j, rfl, hT, g0, g2, g4, g6, g7, g8, g12, g59, hm, hw6, hw1⟩
          obtain ⟨f, rfl⟩ := ex123 hT
          clear hT
          replace g0 : f 0 = x := g0
          replace g2 : f 2 = y := g2
          replace g4 : f 4 = .pref 0 0 0 := g4
          replace g6 : f 6 = .bool false := g6
          replace g7 : f 7 = .bool true := g7
          replace g8 : f 8 = .pref 1 0 0 := g8
          replace g12 : f 12 = .pref 3 0 0 := g12
          replace g59 : f 59 = .int .i64 (j : Nat) := g59
          simp only [g0, g2, g4, g6, g7, g8, g12, g59]
          by_cases hj : j < 6
          · have hia := icells_at (r := v) (j := j) (by omega)
            have hib := icells_at (r := remD rows v) (j := j) (by omega)
            have hwl : (icells w).length = 6 := by rw [icells_len, hw6]
            have hovw := icells_over (r := w) (j := j) (by omega) (v.getD j 0 - (remD rows v).getD j 0)
            have b1 := hok j hj
            have b2 := remD_ok he j hj
            repeat' (first | (refine WO.opE (by intro; simp (disch := omega) only [go_sem, Zz.look, hia, hib, Nat.mul_one, Nat.zero_add]; rfl) (by simp only [pt8, pt0, pt1, pt2, pt3, pt4, pt5, pt6, pt7]; rfl) ?_) | (refine WO.opN (by intro; simp (disch := omega) only [go_sem, Zz.look, Option.bind_eq_bind, hovw, Nat.zero_add, setBlk, List.set_cons_zero, List.set_cons_succ]; rfl) ?_) | (refine WC.seq ?_) | (refine WC.region ?_) | (refine WO.nil ?_) | (simp only [fl1, fl10]) | (refine WC.calm rfl ?_) | (refine WC.skip ?_) | (refine WC.block ?_) | (refine WC.em2 rfl (fun hp => ?_) (fun hp => ?_) <;> try (exfalso; first | omega | contradiction)))
            exact ⟨m - 1, by omega, _, _, w.set j (v.getD j 0 - (remD rows v).getD j 0), j + 1, rfl, rfl, rfl, rfl, rfl, rfl, rfl, rfl, rfl, rfl, by omega, by simpa using hw6, fun t ht => by
              by_cases e : t = j
              · subst e; rw [getD_set_self (by omega)]
              · rw [getD_set_ne (by omega)]; exact hw1 t (by omega)⟩
          · have hje : j = 6 := by omega
            subst hje
            repeat' (first | (refine WO.opE (by intro; simp (disch := omega) only [go_sem]; rfl) (by simp only [pt8, pt4]; rfl) ?_) | (refine WC.seq ?_) | (refine WC.region ?_) | (refine WO.nil ?_) | (simp only [fl3, fl9]) | (refine WC.no rfl ?_) | (refine WC.exit ?_))
            exact ⟨by first | trivial | rfl, _, _, _, rfl, rfl, rfl, rfl, rfl, rfl, rfl, rfl, rfl, hw6, hw1⟩
        · rintro _ _ ⟨rfl, T, B, w, rfl, hT, g0, g2, g4, g6, g7, g8, g12, hw6, hw1⟩
          obtain ⟨f, rfl⟩ := ex123 hT
          clear hT
          replace g0 : f 0 = x := g0
          replace g2 : f 2 = y := g2
          replace g4 : f 4 = .pref 0 0 0 := g4
          replace g6 : f 6 = .bool false := g6
          replace g7 : f 7 = .bool true := g7
          replace g8 : f 8 = .pref 1 0 0 := g8
          replace g12 : f 12 = .pref 3 0 0 := g12
          simp only [g0, g2, g4, g6, g7, g8, g12]
          have hcw := icells_cut hw6
          have hwl : (icells w).length = 6 := by rw [icells_len, hw6]
          have d79 := fun m => s79 (m := m) hw6
          have hp6 := plusV_len (v := v) (rows := rows) (c := byM ys) hv6 rows.length
          have c78 := fun m => x78 (m := m) (v := v) hx hy hv6 (fun j hj => by have := hok j hj; omega) (fun i hi j hj => by have := hv.2.1 i hi j hj; omega) (by have := hv.1; omega) hyn hyb (hx.byVal _) (hy.byVal _)
          have hpl := fun (hw : okB 1000000000 (plusV v rows (byM ys) rows.length)) => red_plus (c := byM ys) h6 hv6 hp6 he hw (fun j hj => plusV_at _ j hj)
          generalize plusV v rows (byM ys) rows.length = u at *
          have hul : (icells u).length = 6 := by rw [icells_len, hp6]
          have hcu := icells_cut hp6
          have hou := fun x0 x1 x2 x3 x4 x5 => icells_over6 hp6 (x0 := x0) (x1 := x1) (x2 := x2) (x3 := x3) (x4 := x4) (x5 := x5)
          simp only [fl1, fl6]
          refine WC.seq (WC.mono (Q := fun e s => e = .normal ∧ ∃ T B, s = ⟨T, [some ⟨0, icells v⟩, some ⟨0, icells (remD rows v)⟩, B, some ⟨0, icells w⟩], []⟩ ∧ T.length = 123 ∧ gt T 0 = x ∧ gt T 2 = y ∧ gt T 4 = .pref 0 0 0 ∧ gt T 6 = .bool false ∧ gt T 7 = .bool true ∧ gt T 8 = .pref 1 0 0) ?_ ?_)
          · by_cases hw : okB 1000000000 w
            · rw [decide_eq_true hw] at d79
              obtain ⟨xm, hxm, c66⟩ := x66 hx hmax hw6
              have c66 := fun m => c66 m x (hx.byVal _)
              rcases red_off h6 hw6 he hw hw1 with h1 | ⟨h1, h2⟩
              · rw [h1] at c66
                generalize decide (memD rows w) = b at *
                cases b
                all_goals
                  repeat' (first | (refine WO.yes rfl ?_) | (refine WO.noE rfl (by simp only [pt8, pt5, pt6]; rfl) ?_) | (refine WO.opE (by intro; simp (disch := omega) only [go_sem, Zz.look, hcw]; rfl) (by simp only [pt8, pt0, pt1, pt2, pt3, pt4, pt5, pt6, pt7]; rfl) ?_) | (refine WO.specE rfl rfl (d79 _) (by simp only [pt8, pt1]; rfl) ?_) | (refine WO.specE rfl rfl (c66 _) (by simp only [pt8, pt5]; rfl) ?_) | (refine WC.seq ?_) | (refine WC.region ?_) | (refine WO.nil ?_) | (simp only [fl1]) | (refine WC.yes rfl ?_))
                  exact ⟨by first | trivial | rfl, _, _, rfl, rfl, rfl, rfl, rfl, rfl, rfl, rfl⟩
              · rw [h1, decide_eq_true h2] at c66
                repeat' (first | (refine WO.yes rfl ?_) | (refine WO.noE rfl (by simp only [pt8, pt1, pt2]; rfl) ?_) | (refine WO.opE (by intro; simp (disch := omega) only [go_sem, Zz.look, hcw]; rfl) (by simp only [pt8, pt0, pt1, pt2, pt3, pt4, pt5, pt6, pt7]; rfl) ?_) | (refine WO.specE rfl rfl (d79 _) (by simp only [pt8, pt1]; rfl) ?_) | (refine WO.specE rfl rfl (c66 _) (by simp only [pt8, pt5]; rfl) ?_) | (refine WC.seq ?_) | (refine WC.region ?_) | (refine WO.nil ?_) | (simp only [fl1]) | (refine WC.yes rfl ?_))
                exact ⟨by first | trivial | rfl, _, _, rfl, rfl, rfl, rfl, rfl, rfl, rfl, rfl⟩
            · rw [decide_eq_false hw] at d79
              repeat' (first | (refine WO.opE (by intro; simp (disch := omega) only [go_sem, Zz.look, hcw]; rfl) (by simp only [pt8, pt0]; rfl) ?_) | (refine WO.specE rfl rfl (d79 _) (by simp only [pt8, pt1]; rfl) ?_) | (refine WC.seq ?_) | (refine WC.region ?_) | (refine WO.nil ?_) | (simp only [fl1]) | (refine WC.no rfl ?_) | (refine WC.skip ?_))
              exact ⟨by first | trivial | rfl, _, _, rfl, rfl, rfl, rfl, rfl, rfl, rfl, rfl⟩
          · clear g0 g2 g4 g6 g7 g8 g12 f B hw1 d79
            rintro _ _ ⟨rfl, T, B, rfl, hT, g0, g2, g4, g6, g7, g8⟩
            obtain ⟨f, rfl⟩ := ex123 hT
            clear hT
            replace g0 : f 0 = x := g0
            replace g2 : f 2 = y := g2
            replace g4 : f 4 = .pref 0 0 0 := g4
            replace g6 : f 6 = .bool false := g6
            replace g7 : f 7 = .bool true := g7
            replace g8 : f 8 = .pref 1 0 0 := g8
            simp only [g0, g2, g4, g6, g7, g8]
            have e68 := fun m => x68 (m := m) hx hmax hp6 (hx.byVal _)
            by_cases hu : okB 1000000000 u
            · rw [decide_eq_true hu] at c78
              have hq6 := remD_len rows hp6
              have hcq := icells_cut hq6
              have hql : (icells (remD rows u)).length = 6 := by rw [icells_len, hq6]
              have hoq := fun x0 x1 x2 x3 x4 x5 => icells_over6 hq6 (x0 := x0) (x1 := x1) (x2 := x2) (x3 := x3) (x4 := x4) (x5 := x5)
              rcases hpl hu with h1 | ⟨h1, h2⟩
              · rw [h1] at e68
                generalize remD rows u = q at *
                repeat' (first | (refine WO.yes rfl ?_) | (refine WO.noE rfl (by simp only [pt8, pt2, pt3, pt4]; rfl) ?_) | (refine WO.opE (by intro; simp (disch := omega) only [go_sem, Zz.look, List.cons_append, List.nil_append, Nat.reduceAdd, hcv, hcu]; rfl) (by simp only [pt8, pt0, pt1, pt2, pt3, pt4, pt5, pt6, pt7]; rfl) ?_) | (refine WO.opN (by intro; simp (disch := omega) only [go_sem, Zz.look, Option.bind_eq_bind, hul, hou, hql, hoq, setBlk, List.set_cons_zero, List.set_cons_succ]; rfl) ?_) | (refine WO.specE rfl rfl (c78 _) (by simp only [pt8, pt1]; rfl) ?_) | (refine WO.specE rfl rfl (e68 _) (by simp only [pt8, pt2]; rfl) ?_) | (refine WC.seq ?_) | (refine WC.region ?_) | (refine WO.nil ?_) | (simp only [fl1]) | (refine WC.no rfl ?_) | (refine WC.skip ?_) | (refine WC.ret ?_))
                exact ⟨_, rfl, rfl⟩
              · rw [h1, h2] at e68
                repeat' (first | (refine WO.yes rfl ?_) | (refine WO.noE rfl (by simp only [pt8, pt0, pt7]; rfl) ?_) | (refine WO.opE (by intro; simp (disch := omega) only [go_sem, Zz.look, List.cons_append, List.nil_append, Nat.reduceAdd, hcv, hcr, hcu, hce]; rfl) (by simp only [pt8, pt0, pt1, pt2, pt3, pt4, pt5, pt6, pt7]; rfl) ?_) | (refine WO.opN (by intro; simp (disch := omega) only [go_sem, Zz.look, Option.bind_eq_bind, hrl, hor, hul, hou, setBlk, List.set_cons_zero, List.set_cons_succ]; rfl) ?_) | (refine WO.specE rfl rfl (c78 _) (by simp only [pt8, pt1]; rfl) ?_) | (refine WO.specE rfl rfl (e68 _) (by simp only [pt8, pt2]; rfl) ?_) | (refine WC.seq ?_) | (refine WC.region ?_) | (refine WO.nil ?_) | (simp only [fl1]) | (refine WC.no rfl ?_) | (refine WC.skip ?_) | (refine WC.ret ?_))
                exact ⟨_, rfl, rfl⟩
            · rw [decide_eq_false hu] at c78
              repeat' (first | (refine WO.opE (by intro; simp (disch := omega) only [go_sem, Zz.look, List.cons_append, List.nil_append, Nat.reduceAdd, hcv]; rfl) (by simp only [pt8, pt0, pt1, pt2, pt3, pt4, pt5, pt6, pt7]; rfl) ?_) | (refine WO.opN (by intro; simp (disch := omega) only [go_sem, Zz.look, Option.bind_eq_bind, hul, hou, setBlk, List.set_cons_zero, List.set_cons_succ]; rfl) ?_) | (refine WO.specE rfl rfl (c78 _) (by simp only [pt8, pt1]; rfl) ?_) | (refine WC.seq ?_) | (refine WC.region ?_) | (refine WO.nil ?_) | (simp only [fl1, fl2]) | (refine WC.yes rfl ?_) | (refine WC.ret ?_))
              exact ⟨_, rfl, rfl⟩
      · have he3 : errD rows v = 3 := by
          rcases mem_cases hv h6 hv6 hok with h | h
          · exact h
          · exact absurd h.1 he
        rw [he3] at c68
        refine WF.fnE rfl (fn_of Try.func16 cir16) (by show 3 ≤ 123; decide) ?_
        unfold ir16; dsimp only [k0, kI, mV, oO, oG]
        simp only [padTo, List.replicate, List.nil_append, List.append_nil]
        repeat' (first | (refine WO.yes rfl ?_) | (refine WO.opE (by intro; simp (disch := omega) only [go_sem, Zz.look, List.cons_append, List.nil_append, hcv]; rfl) (by simp only [pt8, pt0, pt1, pt2, pt3, pt4, pt5, pt6, pt7]; rfl) ?_) | (refine WO.opN (by intro; simp (disch := omega) only [go_sem, Zz.look, Option.bind_eq_bind, hrl, hor, setBlk, List.set_cons_zero, List.set_cons_succ]; rfl) ?_) | (refine WO.specE rfl rfl (c65 _) (by simp only [pt8, pt4]; rfl) ?_) | (refine WO.specE rfl rfl (c26 _) (by simp only [pt8, pt6]; rfl) ?_) | (refine WO.specE rfl rfl (c79 _) (by simp only [pt8, pt2]; rfl) ?_) | (refine WO.specE rfl rfl (c68 _) (by simp only [pt8, pt1]; rfl) ?_) | (refine WC.seq ?_) | (refine WC.region ?_) | (refine WO.nil ?_) | (simp only [fl1, fl2]) | (refine WC.yes rfl ?_) | (refine WC.no rfl ?_) | (refine WC.skip ?_) | (refine WC.ret ?_))
        exact ⟨_, rfl, rfl⟩
    · rw [decide_eq_false hok] at c79
      refine WF.fnE rfl (fn_of Try.func16 cir16) (by show 3 ≤ 123; decide) ?_
      unfold ir16; dsimp only [k0, kI, mV, oO, oG]
      simp only [padTo, List.replicate, List.nil_append, List.append_nil]
      repeat' (first | (refine WO.yes rfl ?_) | (refine WO.opE (by intro; simp (disch := omega) only [go_sem, Zz.look, List.nil_append, hcv]; rfl) (by simp only [pt8, pt0, pt1, pt3, pt4, pt5, pt6, pt7]; rfl) ?_) | (refine WO.specE rfl rfl (c65 _) (by simp only [pt8, pt4]; rfl) ?_) | (refine WO.specE rfl rfl (c26 _) (by simp only [pt8, pt6]; rfl) ?_) | (refine WO.specE rfl rfl (c79 _) (by simp only [pt8, pt2]; rfl) ?_) | (refine WC.seq ?_) | (refine WC.region ?_) | (refine WO.nil ?_) | (simp only [fl1, fl2]) | (refine WC.yes rfl ?_) | (refine WC.ret ?_))
      exact ⟨_, rfl, rfl⟩
  · rw [decide_eq_false hv] at c26
    refine WF.fnE rfl (fn_of Try.func16 cir16) (by show 3 ≤ 123; decide) ?_
    unfold ir16; dsimp only [k0, kI, mV, oO, oG]
    simp only [padTo, List.replicate, List.nil_append, List.append_nil]
    repeat' (first | (refine WO.noE rfl (by simp only [pt8, pt1, pt2, pt3]; rfl) ?_) | (refine WO.opE (by intro; simp (disch := omega) only [go_sem, List.nil_append]; rfl) (by simp only [pt8, pt0, pt4, pt5, pt6, pt7]; rfl) ?_) | (refine WO.specE rfl rfl (c65 _) (by simp only [pt8, pt4]; rfl) ?_) | (refine WO.specE rfl rfl (c26 _) (by simp only [pt8, pt6]; rfl) ?_) | (refine WC.seq ?_) | (refine WC.region ?_) | (refine WO.nil ?_) | (simp only [fl1, fl2]) | (refine WC.yes rfl ?_) | (refine WC.ret ?_))
    exact ⟨_, rfl, rfl⟩
end Go.Proofs.Ytnilimjkibimcaa

