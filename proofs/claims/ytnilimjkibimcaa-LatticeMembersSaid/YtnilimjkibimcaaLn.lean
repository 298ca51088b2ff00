import Derived.Test.YtnilimjkibimcaaLm
set_option linter.unusedSimpArgs false
set_option linter.unusedVariables false

namespace Go.Proofs.Ytnilimjkibimcaa
open Go.Zz
set_option maxRecDepth 100000
set_option maxHeartbeats 8000000
theorem run15 {x y : AV} {rows : List (List Int)} {ys : List Int} (hx : RwL x rows) (hmax : rows.length < 9223372036854775807) (hy : SxS y ys) (hyn : ys.length < 9223372036854775808) (hyb : ∀ y ∈ ys, -32768 ≤ y ∧ y ≤ 32767) : WF N21 (.func 15 [] []) [x, y] ⟨[], []⟩ fun u m' => u = .bool true := by
  have c65 := fun m => s65 (m := m)
  have hyl := hy.len
  have h6 : Six rows := fun i hi => hx.six hi
  obtain ⟨xb, hxb, c27⟩ := x27 hx hmax
  have c27 := fun m => c27 m x (hx.byVal _)
  have c26 := fun m => x26 (m := m) hx hmax (hx.byVal _)
  by_cases hv : VM rows
  · rw [show errC rows = 0 from if_pos hv] at c27
    rw [show hermR rows = hermF rows from if_pos hv] at hxb
    have hD := herm_divB hv h6
    have hle := hD.le
    have hbl := hxb.len
    have hw6 := plusV_len (v := zer6) (rows := hermF rows) (c := byM ys) rfl (hermF rows).length
    have c78 := fun m => x78 (m := m) (v := zer6) hxb hy rfl (by decide) hD.bd (by omega) hyn hyb (hxb.byVal _) (hy.byVal _)
    have hz : icells zer6 = [.int .i64 0, .int .i64 0, .int .i64 0, .int .i64 0, .int .i64 0, .int .i64 0] := rfl
    rw [hz] at c78
    have hat := fun j hj => plusV_at (v := zer6) (rows := hermF rows) (c := byM ys) (hermF rows).length j hj
    generalize plusV zer6 (hermF rows) (byM ys) (hermF rows).length = w at *
    have hcw := icells_cut hw6
    have hml : (icells w).length = 6 := by rw [icells_len, hw6]
    have hov := fun x0 x1 x2 x3 x4 x5 => icells_over6 hw6 (x0 := x0) (x1 := x1) (x2 := x2) (x3 := x3) (x4 := x4) (x5 := x5)
    by_cases hok : okB 1000000000 w
    · rw [decide_eq_true hok] at c78
      have hmem := members (c := byM ys) hv h6 hw6 hok (fun j hj => by
        rw [hat j hj]
        have : vF zer6 j = 0 := (by decide : ∀ j, j < 6 → zer6.getD j 0 = 0) j hj
        rw [this]
        omega)
      obtain ⟨xm, hxm, c66⟩ := x66 hx hmax hw6
      have c66 := fun m => c66 m x (hx.byVal _)
      rcases hmem with he | ⟨he, hm, hq⟩
      · rw [he] at c66
        generalize decide (memD rows w) = b at *
        refine WF.fnE rfl (fn_of Try.func15 cir15) (by show 2 ≤ 101; decide) ?_
        unfold ir15; dsimp only [k0, kI, mV, oO, oG]
        simp only [padTo, List.replicate, List.nil_append, List.append_nil]
        repeat' (first | (refine WO.yes rfl ?_) | (refine WO.opE (by intro; simp (disch := omega) only [go_sem, Zz.look, List.nil_append, fillP, hcw]; rfl) (by simp only [pt8, pt0, pt1, pt2, pt3, pt4, pt5, pt6, pt7]; rfl) ?_) | (refine WO.opN (by intro; simp (disch := omega) only [go_sem, Zz.look, Option.bind_eq_bind, hml, hov]; rfl) ?_) | (refine WO.opE (by intro; exact ev_lenS (by simp only [go_sem]; first | rfl | assumption)) (by simp only [pt8, pt1]; rfl) ?_) | (refine WO.specE rfl rfl (c65 _) (by simp only [pt8, pt7]; rfl) ?_) | (refine WO.specE rfl rfl (c27 _) (by simp only [pt8, pt2]; rfl) ?_) | (refine WO.specE rfl rfl (c78 _) (by simp only [pt8, pt1]; rfl) ?_) | (refine WO.specE rfl rfl (c66 _) (by simp only [pt8, pt2]; rfl) ?_) | (refine WC.seq ?_) | (refine WC.region ?_) | (refine WO.nil ?_) | (simp only [fl1, fl2]) | (refine WC.yes rfl ?_) | (refine WC.no rfl ?_) | (refine WC.skip ?_) | (refine WC.ret ?_) | (refine WC.em2 rfl (fun hp => ?_) (fun hp => ?_) <;> try (exfalso; first | omega | contradiction)))
        exact ⟨_, rfl, rfl⟩
      · rw [he, decide_eq_true hm] at c66
        rw [hq] at hxm
        have hxml := hxm.len
        rw [List.length_map, List.length_range] at hxml
        refine WF.fnE rfl (fn_of Try.func15 cir15) (by show 2 ≤ 101; decide) ?_
        unfold ir15; dsimp only [k0, kI, mV, oO, oG]
        simp only [padTo, List.replicate, List.nil_append, List.append_nil]
        repeat' (first | (refine WO.yes rfl ?_) | (refine WO.opE (by intro; simp (disch := omega) only [go_sem, Zz.look, List.nil_append, fillP, hcw]; rfl) (by simp only [pt8, pt0, pt1, pt2, pt3, pt4, pt5, pt6, pt7]; rfl) ?_) | (refine WO.opN (by intro; simp (disch := omega) only [go_sem, Zz.look, Option.bind_eq_bind, hml, hov]; rfl) ?_) | (refine WO.opE (by intro; exact ev_lenS (by simp only [go_sem]; first | rfl | assumption)) (by simp only [pt8, pt1, pt3, pt5]; rfl) ?_) | (refine WO.specE rfl rfl (c65 _) (by simp only [pt8, pt7]; rfl) ?_) | (refine WO.specE rfl rfl (c27 _) (by simp only [pt8, pt2]; rfl) ?_) | (refine WO.specE rfl rfl (c78 _) (by simp only [pt8, pt1]; rfl) ?_) | (refine WO.specE rfl rfl (c66 _) (by simp only [pt8, pt2]; rfl) ?_) | (refine WC.seq ?_) | (refine WC.region ?_) | (refine WO.nil ?_) | (simp only [fl1]) | (refine WC.no rfl ?_) | (refine WC.skip ?_) | (refine WC.block ?_) | (refine WC.em2 rfl (fun hp => ?_) (fun hp => ?_) <;> try (exfalso; first | omega | contradiction)))
        refine WC.loopI (fun m s => ∃ T R i, s = ⟨T, R, []⟩ ∧ T.length = 101 ∧ gt T 1 = y ∧ gt T 5 = .bool true ∧ gt T 6 = xb ∧ gt T 10 = xm ∧ gt T 13 = .int .i64 (i : Nat) ∧ m + i = (hermF rows).length) ?_ (hermF rows).length _ ⟨_, _, 0, rfl, rfl, rfl, rfl, rfl, rfl, rfl, by omega⟩
        rintro m _ ⟨T, R, i, rfl, hT, g1, g5, g6, g10, g13, hmm⟩
        obtain ⟨f, rfl⟩ := ex101 hT
        clear hT
        replace g1 : f 1 = y := g1
        replace g5 : f 5 = .bool true := g5
        replace g6 : f 6 = xb := g6
        replace g10 : f 10 = xm := g10
        replace g13 : f 13 = .int .i64 (i : Nat) := g13
        simp only [g1, g5, g6, g10, g13]
        by_cases hi : i < (hermF rows).length
        · have hmat := hxm.atI (i := (i : Int)) (by omega) (by rw [List.length_map, List.length_range]; omega)
          rw [toNat_cast] at hmat
          have hge : ((List.range (hermF rows).length).map (byM ys)).getD i 0 = byM ys i := by simp [List.getD_eq_getElem?_getD, hi]
          rw [hge] at hmat
          by_cases hyi : i < ys.length
          · have hyat := hy.at hyi
            have hyw := sx_bd hyb i
            have hc : byM ys i = (ys.getD i 0).tmod 1001 := if_pos hyi
            rw [hc] at hmat
            repeat' (first | (refine WO.yes rfl ?_) | (refine WO.opE (by intro; simp (disch := omega) only [go_sem, hyat, hmat]; rfl) (by simp only [pt8, pt0, pt1, pt2, pt3, pt4, pt5, pt6, pt7]; rfl) ?_) | (refine WO.opE (by intro; exact ev_lenS (by simp only [go_sem]; first | rfl | assumption)) (by simp only [pt8, pt2, pt3]; rfl) ?_) | (refine WC.seq ?_) | (refine WC.region ?_) | (refine WO.nil ?_) | (simp only [fl1, fl10]) | (refine WC.yes rfl ?_) | (refine WC.skip ?_) | (refine WC.block ?_) | (refine WO.em2 rfl (by intro hp; simp only [hp, decide_true]; rfl) (by intro hp; simp only [hp, decide_false]; rfl) (fun hp => ?_) (fun hp => ?_) <;> try (exfalso; first | omega | contradiction)) | (refine WC.em2 rfl (fun hp => ?_) (fun hp => ?_) <;> try (exfalso; first | omega | contradiction)))
            exact ⟨m - 1, by omega, _, _, i + 1, rfl, rfl, rfl, rfl, rfl, rfl, rfl, by omega⟩
          · have hc : byM ys i = 0 := if_neg hyi
            rw [hc] at hmat
            repeat' (first | (refine WO.yes rfl ?_) | (refine WO.opE (by intro; simp (disch := omega) only [go_sem, hmat]; rfl) (by simp only [pt8, pt0, pt1, pt2, pt3, pt4, pt5, pt6, pt7]; rfl) ?_) | (refine WO.opE (by intro; exact ev_lenS (by simp only [go_sem]; first | rfl | assumption)) (by simp only [pt8, pt2, pt3]; rfl) ?_) | (refine WC.seq ?_) | (refine WC.region ?_) | (refine WO.nil ?_) | (simp only [fl1, fl10]) | (refine WC.yes rfl ?_) | (refine WC.skip ?_) | (refine WC.block ?_) | (refine WO.em2 rfl (by intro hp; simp only [hp, decide_true]; rfl) (by intro hp; simp only [hp, decide_false]; rfl) (fun hp => ?_) (fun hp => ?_) <;> try (exfalso; first | omega | contradiction)) | (refine WC.em2 rfl (fun hp => ?_) (fun hp => ?_) <;> try (exfalso; first | omega | contradiction)))
            exact ⟨m - 1, by omega, _, _, i + 1, rfl, rfl, rfl, rfl, rfl, rfl, rfl, by omega⟩
        · have hie : i = (hermF rows).length := by omega
          subst hie
          repeat' (first | (refine WO.noE rfl (by simp only [pt8, pt5]; rfl) ?_) | (refine WO.opE (by intro; simp (disch := omega) only [go_sem]; rfl) (by simp only [pt8, pt0, pt1, pt3, pt4, pt6]; rfl) ?_) | (refine WO.opE (by intro; exact ev_lenS (by simp only [go_sem]; first | rfl | assumption)) (by simp only [pt8, pt2]; rfl) ?_) | (refine WC.seq ?_) | (refine WC.region ?_) | (refine WO.nil ?_) | (simp only [fl1]) | (refine WC.no rfl ?_) | (refine WC.exit ?_) | (refine WC.ret ?_) | (refine WO.em2 rfl (by intro hp; simp only [hp, decide_true]; rfl) (by intro hp; simp only [hp, decide_false]; rfl) (fun hp => ?_) (fun hp => ?_) <;> try (exfalso; first | omega | contradiction)))
          exact ⟨_, rfl, rfl⟩
    · rw [decide_eq_false hok] at c78
      refine WF.fnE rfl (fn_of Try.func15 cir15) (by show 2 ≤ 101; decide) ?_
      unfold ir15; dsimp only [k0, kI, mV, oO, oG]
      simp only [padTo, List.replicate, List.nil_append, List.append_nil]
      repeat' (first | (refine WO.yes rfl ?_) | (refine WO.opE (by intro; simp (disch := omega) only [go_sem, List.nil_append, fillP]; rfl) (by simp only [pt8, pt0, pt1, pt2, pt3, pt4, pt5, pt6, pt7]; rfl) ?_) | (refine WO.opN (by intro; simp (disch := omega) only [go_sem, Zz.look, Option.bind_eq_bind, hml, hov]; rfl) ?_) | (refine WO.opE (by intro; exact ev_lenS (by simp only [go_sem]; first | rfl | assumption)) (by simp only [pt8, pt1]; rfl) ?_) | (refine WO.specE rfl rfl (c65 _) (by simp only [pt8, pt7]; rfl) ?_) | (refine WO.specE rfl rfl (c27 _) (by simp only [pt8, pt2]; rfl) ?_) | (refine WO.specE rfl rfl (c78 _) (by simp only [pt8, pt1]; rfl) ?_) | (refine WC.seq ?_) | (refine WC.region ?_) | (refine WO.nil ?_) | (simp only [fl1, fl2]) | (refine WC.yes rfl ?_) | (refine WC.skip ?_) | (refine WC.ret ?_) | (refine WC.em2 rfl (fun hp => ?_) (fun hp => ?_) <;> try (exfalso; first | omega | contradiction)))
      exact ⟨_, rfl, rfl⟩
  · rw [show errC rows = 1 from if_neg hv] at c27
    rw [decide_eq_false hv] at c26
    refine WF.fnE rfl (fn_of Try.func15 cir15) (by show 2 ≤ 101; decide) ?_
    unfold ir15; dsimp only [k0, kI, mV, oO, oG]
    simp only [padTo, List.replicate, List.nil_append, List.append_nil]
    repeat' (first | (refine WO.yes rfl ?_) | (refine WO.noE rfl (by simp only [pt8, pt0, pt1, pt2]; rfl) ?_) | (refine WO.opE (by intro; simp (disch := omega) only [go_sem]; rfl) (by simp only [pt8, pt0, pt1, pt2, pt3, pt4, pt5, pt6, pt7]; rfl) ?_) | (refine WO.specE rfl rfl (c65 _) (by simp only [pt8, pt7]; rfl) ?_) | (refine WO.specE rfl rfl (c27 _) (by simp only [pt8, pt2]; rfl) ?_) | (refine WO.specE rfl rfl (c26 _) (by simp only [pt8, pt1]; rfl) ?_) | (refine WC.seq ?_) | (refine WC.region ?_) | (refine WO.nil ?_) | (simp only [fl1, fl2]) | (refine WC.yes rfl ?_) | (refine WC.ret ?_))
    exact ⟨_, rfl, rfl⟩
end Go.Proofs.Ytnilimjkibimcaa

