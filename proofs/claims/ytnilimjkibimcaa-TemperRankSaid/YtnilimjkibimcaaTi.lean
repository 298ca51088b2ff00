import Derived.Test.YtnilimjkibimcaaTh
import Derived.Test.YtnilimjkibimcaaPo
set_option linter.unusedSimpArgs false
set_option linter.unusedVariables false

namespace Go.Proofs.Ytnilimjkibimcaa
open Go.Zz
set_option maxRecDepth 100000
set_option maxHeartbeats 8000000
theorem run12 {l : AV} {rows : List (List Int)} (hl : RwL l rows) (hmax : rows.length < 9223372036854775807) : WF T23 (.func 12 [] []) [.agg [l]] ⟨[], []⟩ fun y m' => y = .bool true := by
  have hll := hl.len
  have hlc := hl.cells
  unfold AV.cells at hlc
  have c44 := fun m => s44 (m := m)
  have c45 := fun m => x45 (m := m) hl hmax (hl.byC _)
  by_cases ht : VT rows
  · rw [decide_eq_true ht] at c45
    have h6 : Six rows := fun i hi => hl.six hi
    have hv := ht.2.2.1
    obtain ⟨xk, hxk, c52⟩ := x52 hl hmax
    have c52 := fun m => c52 m l (hl.byC _)
    have e1 : kerT rows = kerF rows := if_pos ht
    have e2 : errT rows = 0 := if_pos ht
    rw [e1] at hxk
    rw [e2] at c52
    have hkl : (kerF rows).length + rows.length = 6 := by
      have h1 := kern_len hv h6
      have e3 : kernR rows = kerF rows := if_pos hv
      have h2 := ht.2.2.2
      have h3 := ht.1.2
      rw [e3] at h1
      omega
    have hxl := hxk.len
    have hK := ker_lat hv h6
    have hbd := ker_bd hv h6
    have hkl2 : ((kerF rows).length : Int) + (rows.length : Int) = 6 := by omega
    refine WF.fnE rfl (fn_of Try.func12 cir12) (by show 1 ≤ 75; decide) ?_
    unfold ir12; dsimp only [k0, kI, mV, oO, oG]
    simp only [padTo, List.replicate, List.nil_append, List.append_nil]
    repeat' (first | (refine WO.yes rfl ?_) | (refine WO.opE (by intro; simp (disch := omega) only [go_sem, Zz.look, hkl2]; rfl) (by simp only [pt8, pt0, pt1, pt2, pt3, pt4, pt5, pt6, pt7]; rfl) ?_) | (refine WO.opE (by intro; exact ev_lenS (by simp only [go_sem]; first | rfl | assumption)) (by simp only [pt8, pt2, pt7]; rfl) ?_) | (refine WO.specE rfl rfl (c44 _) (by simp only [pt8, pt1]; rfl) ?_) | (refine WO.specE rfl rfl (c45 _) (by simp only [pt8, pt3]; rfl) ?_) | (refine WO.specE rfl rfl (c52 _) (by simp only [pt8, pt0]; rfl) ?_) | (refine WC.seq ?_) | (refine WC.region ?_) | (refine WO.nil ?_) | (simp only [fl1]) | (refine WC.no rfl ?_) | (refine WC.skip ?_) | (refine WC.block ?_))
    refine WC.loopI (fun m s => ∃ T i, s = ⟨T, [some ⟨0, [l]⟩], []⟩ ∧ T.length = 75 ∧ gt T 1 = .pref 0 0 0 ∧ gt T 3 = .bool true ∧ gt T 4 = xk ∧ gt T 6 = .int .i64 (i : Nat) ∧ m + i = (kerF rows).length) ?_ (kerF rows).length _ ⟨_, 0, rfl, rfl, rfl, rfl, rfl, rfl, by omega⟩
    rintro m _ ⟨T, i, rfl, hT, g1, g3, g4, g6, hm⟩
    obtain ⟨f, rfl⟩ := ex75 hT
    clear hT
    replace g1 : f 1 = .pref 0 0 0 := g1
    replace g3 : f 3 = .bool true := g3
    replace g4 : f 4 = xk := g4
    replace g6 : f 6 = .int .i64 (i : Nat) := g6
    simp only [g1, g3, g4, g6]
    by_cases hi : i < (kerF rows).length
    · have k6 := hxk.six hi
      have kat := hxk.at hi
      have kcut := cut_row (t := tailr (kerF rows) i) k6
      have kcr : (rw_ (kerF rows) i).map (AV.int .i64) = icells (rw_ (kerF rows) i) := rfl
      rw [kcr] at kat kcut
      repeat' (first | (refine WO.opE (by intro; simp (disch := omega) only [go_sem]; rfl) (by simp only [pt8, pt1, pt6, pt7]; rfl) ?_) | (refine WO.opE (by intro; exact ev_lenS (by simp only [go_sem]; first | rfl | assumption)) (by simp only [pt8, pt0]; rfl) ?_) | (refine WC.seq ?_) | (refine WC.region ?_) | (refine WO.nil ?_) | (simp only [fl1]) | (refine WC.skip ?_) | (refine WC.block ?_) | (refine WC.em2 rfl (fun hp => ?_) (fun hp => ?_) <;> try (exfalso; first | omega | contradiction)))
      refine WC.loopI (fun m2 s => ∃ T j, s = ⟨T, [some ⟨0, [l]⟩], []⟩ ∧ T.length = 75 ∧ gt T 1 = .pref 0 0 0 ∧ gt T 3 = .bool true ∧ gt T 4 = xk ∧ gt T 6 = .int .i64 (i : Nat) ∧ gt T 7 = .int .i64 (j : Nat) ∧ m2 + j = 6) ?_ 6 _ ⟨_, 0, rfl, rfl, rfl, rfl, rfl, rfl, rfl, by omega⟩
      clear g1 g3 g4 g6 f
      rintro m2 _ ⟨T, j, rfl, hT, g1, g3, g4, g6, g7, hm2⟩
      obtain ⟨f, rfl⟩ := ex75 hT
      clear hT
      replace g1 : f 1 = .pref 0 0 0 := g1
      replace g3 : f 3 = .bool true := g3
      replace g4 : f 4 = xk := g4
      replace g6 : f 6 = .int .i64 (i : Nat) := g6
      replace g7 : f 7 = .int .i64 (j : Nat) := g7
      simp only [g1, g3, g4, g6, g7]
      by_cases hj : j < 6
      · have kdr := dr_row (t := tailr (kerF rows) i) (r := rw_ (kerF rows) i) (j := j) (by omega)
        rw [kcr] at kdr
        have hpe : (rw_ (kerF rows) i).getD j 0 = ent (kerF rows) i j := rfl
        rw [hpe] at kdr
        have hb := hbd i j hi hj
        repeat' (first | (refine WO.yes rfl ?_) | (refine WO.opE (by intro; simp (disch := omega) only [go_sem, Int.reduceNeg, Int.reduceAdd, kat, kdr, Nat.mul_one]; rfl) (by simp only [pt8, pt0, pt1, pt2, pt3, pt4, pt5, pt6, pt7]; rfl) ?_) | (refine WC.seq ?_) | (refine WC.region ?_) | (refine WO.nil ?_) | (simp only [fl1, fl10]) | (refine WC.skip ?_) | (refine WC.block ?_) | (refine WO.em2 rfl (by intro hp; simp only [hp, decide_true]; rfl) (by intro hp; simp only [hp, decide_false]; rfl) (fun hp => ?_) (fun hp => ?_) <;> try (exfalso; first | omega | contradiction)) | (refine WC.em2 rfl (fun hp => ?_) (fun hp => ?_) <;> try (exfalso; first | omega | contradiction)))
        exact ⟨m2 - 1, by omega, _, j + 1, rfl, rfl, rfl, rfl, rfl, rfl, rfl, by omega⟩
      · have hje : j = 6 := by omega
        subst hje
        repeat' (first | (refine WO.opE (by intro; simp (disch := omega) only [go_sem]; rfl) (by simp only [pt8, pt0, pt4, pt5]; rfl) ?_) | (refine WC.seq ?_) | (refine WC.region ?_) | (refine WO.nil ?_) | (simp only [fl1]) | (refine WC.no rfl ?_) | (refine WC.exit ?_) | (refine WC.block ?_))
        refine WC.loopI (fun m3 s => ∃ T n, s = ⟨T, [some ⟨0, [l]⟩], []⟩ ∧ T.length = 75 ∧ gt T 1 = .pref 0 0 0 ∧ gt T 3 = .bool true ∧ gt T 4 = xk ∧ gt T 6 = .int .i64 (i : Nat) ∧ gt T 8 = .int .i64 (n : Nat) ∧ m3 + n = rows.length) ?_ rows.length _ ⟨_, 0, rfl, rfl, rfl, rfl, rfl, rfl, rfl, by omega⟩
        clear g1 g3 g4 g6 g7 f
        rintro m3 _ ⟨T, n, rfl, hT, g1, g3, g4, g6, g8, hm3⟩
        obtain ⟨f, rfl⟩ := ex75 hT
        clear hT
        replace g1 : f 1 = .pref 0 0 0 := g1
        replace g3 : f 3 = .bool true := g3
        replace g4 : f 4 = xk := g4
        replace g6 : f 6 = .int .i64 (i : Nat) := g6
        replace g8 : f 8 = .int .i64 (n : Nat) := g8
        simp only [g1, g3, g4, g6, g8]
        by_cases hn : n < rows.length
        · have h6n := hl.six hn
          have hat := hl.at hn
          have hcut := cut_row (t := tailr rows n) h6n
          have hcr : (rw_ rows n).map (AV.int .i64) = icells (rw_ rows n) := rfl
          rw [hcr] at hat hcut
          have hz : dotF (rw_ (kerF rows) i) (rw_ rows n) = 0 := by
            have := (hK.sp _).1 (Sp.row hi) n hn
            rw [dot_comm] at this
            exact this
          have c64 := fun m => s64 (m := m) k6 h6n (fun j hj => hbd i j hi hj) (ht.2.1 n hn) (by decide)
          rw [hz] at c64
          repeat' (first | (refine WO.opE (by intro; simp (disch := omega) only [go_sem, Zz.look]; rfl) (by simp only [pt8, pt0, pt1, pt2, pt4, pt5, pt6]; rfl) ?_) | (refine WO.opE (by intro; exact ev_lenS (by simp only [go_sem]; first | rfl | assumption)) (by simp only [pt8, pt3]; rfl) ?_) | (refine WT.spec rfl rfl (fun V => c64 ⟨V, []⟩) (by simp only [pt8, pt0]; rfl) ?_) | (refine WC.seq ?_) | (refine WC.region ?_) | (refine WO.nil ?_) | (simp only [fl1, fl10]) | (refine WC.drawT ?_) | (refine WT.nil ?_) | (refine WT.free rfl (by intro; simp (disch := omega) only [go_sem, Zz.look, kat, kcut, hat, hcut]; rfl) rfl (by simp only [pt8, pt0, pt1, pt2, pt3, pt4, pt5, pt6, pt7]; rfl) ?_) | (refine WT.big rfl rfl (by intro; simp (disch := omega) only [go_sem, Zz.look, kcut, hcut]; rfl) (by simp (disch := omega) only [go_sem, touch]; rfl) (by first | exact .inl rfl | exact .inr (apart_nil _) | exact .inr trivial | (right; apply apart_mk; simp only [apartL, List.nil_append, List.cons_append, List.getElem?_cons_succ, List.getElem?_cons_zero, Tch.free, and_true, true_and]; first | done | omega)) (by simp only [pt8, pt2, pt4, pt7]; rfl) ?_) | (refine WC.no rfl ?_) | (refine WC.skip ?_) | (refine WC.block ?_) | (refine WC.em2 rfl (fun hp => ?_) (fun hp => ?_) <;> try (exfalso; first | omega | contradiction)))
          exact ⟨m3 - 1, by omega, _, n + 1, rfl, rfl, rfl, rfl, rfl, rfl, rfl, by omega⟩
        · have hne : n = rows.length := by omega
          subst hne
          repeat' (first | (refine WO.opE (by intro; simp (disch := omega) only [go_sem, Zz.look]; rfl) (by simp only [pt8, pt0, pt1, pt2, pt3, pt4, pt6]; rfl) ?_) | (refine WO.opE (by intro; exact ev_lenS (by simp only [go_sem]; first | rfl | assumption)) (by simp only [pt8, pt3]; rfl) ?_) | (refine WC.seq ?_) | (refine WC.region ?_) | (refine WO.nil ?_) | (simp only [fl1, fl10]) | (refine WC.exit ?_) | (refine WC.em2 rfl (fun hp => ?_) (fun hp => ?_) <;> try (exfalso; first | omega | contradiction)))
          exact ⟨m - 1, by omega, _, i + 1, rfl, rfl, rfl, rfl, rfl, rfl, by omega⟩
    · have hie : i = (kerF rows).length := by omega
      subst hie
      repeat' (first | (refine WO.opE (by intro; simp (disch := omega) only [go_sem]; rfl) (by simp only [pt8, pt1, pt2, pt6, pt7]; rfl) ?_) | (refine WO.opE (by intro; exact ev_lenS (by simp only [go_sem]; first | rfl | assumption)) (by simp only [pt8, pt0]; rfl) ?_) | (refine WC.seq ?_) | (refine WC.region ?_) | (refine WO.nil ?_) | (simp only [fl1]) | (refine WC.exit ?_) | (refine WC.ret ?_) | (refine WC.em2 rfl (fun hp => ?_) (fun hp => ?_) <;> try (exfalso; first | omega | contradiction)))
      exact ⟨_, rfl, rfl⟩
  · rw [decide_eq_false ht] at c45
    refine WF.fnE rfl (fn_of Try.func12 cir12) (by show 1 ≤ 75; decide) ?_
    unfold ir12; dsimp only [k0, kI, mV, oO, oG]
    simp only [padTo, List.replicate, List.nil_append, List.append_nil]
    repeat' (first | (refine WO.opE (by intro; simp (disch := omega) only [go_sem, Zz.look]; rfl) (by simp only [pt8, pt1, pt2, pt3, pt4, pt5]; rfl) ?_) | (refine WO.specE rfl rfl (c44 _) (by simp only [pt8, pt1]; rfl) ?_) | (refine WO.specE rfl rfl (c45 _) (by simp only [pt8, pt3]; rfl) ?_) | (refine WC.seq ?_) | (refine WC.region ?_) | (refine WO.nil ?_) | (simp only [fl1, fl2]) | (refine WC.yes rfl ?_) | (refine WC.ret ?_))
    exact ⟨_, rfl, rfl⟩
end Go.Proofs.Ytnilimjkibimcaa

