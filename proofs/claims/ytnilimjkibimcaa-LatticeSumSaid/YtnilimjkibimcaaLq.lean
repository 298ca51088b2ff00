import Derived.Test.YtnilimjkibimcaaLp
import Derived.Test.YtnilimjkibimcaaLC
set_option linter.unusedSimpArgs false
set_option linter.unusedVariables false

namespace Go.Proofs.Ytnilimjkibimcaa
open Go.Zz
set_option maxRecDepth 100000
set_option maxHeartbeats 8000000
theorem run18 {x y z : AV} {a b c : List (List Int)} (hx : RwL x a) (hy : RwL y b) (hz : RwL z c) (ha : a.length < 9223372036854775807) (hb : b.length < 9223372036854775807) (hc : c.length < 9223372036854775807) : WF N21 (.func 18 [] []) [x, y, z] ⟨[], []⟩ fun u m' => u = .bool true := by
  have c65 := fun m => s65 (m := m)
  have a6 : Six a := fun i hi => hx.six hi
  have b6 : Six b := fun i hi => hy.six hi
  have c6 : Six c := fun i hi => hz.six hi
  obtain ⟨xs, hxs, c72⟩ := x72 hx hy ha hb
  have c72 := fun m => c72 m x y (hx.byVal _) (hy.byVal _)
  obtain ⟨xt, hxt, d72⟩ := x72 hy hx hb ha
  have d72 := fun m => d72 m y x (hy.byVal _) (hx.byVal _)
  rw [errM_comm b a] at d72
  rw [sumR_comm b6 a6] at hxt
  have hsl : (sumR a b).length ≤ 6 := by
    unfold sumR
    split
    · rename_i h
      exact hermR_len _ (six_app a6 b6)
    · exact Nat.zero_le _
  have d29 := fun m => x29 (m := m) hxs hxt (by omega) (hxs.byVal _) (hxt.byVal _)
  rw [decide_eq_true rfl] at d29
  have c26 := fun m => x26 (m := m) hxs (by omega) (hxs.byVal _)
  have d26 := fun m => x26 (m := m) hz hc (hz.byVal _)
  by_cases he : errM a b = 0
  · rw [he] at c72 d72
    by_cases hs : VM (sumR a b)
    · rw [decide_eq_true hs] at c26
      by_cases hv : VM c
      · rw [decide_eq_true hv] at d26
        have hvv := (sum_row a6 b6 he).1
        have hva := hvv.1.1
        have hvb := hvv.2.1
        have ab6 : ∀ r ∈ a ++ b, r.length = 6 := fun r hr => by
          rcases List.mem_append.1 hr with h | h
          · exact rwl_six hx r h
          · exact rwl_six hy r h
        have hxl := hxs.len
        obtain ⟨v1, H1, u, q, H2, a1, b1, hG, hul⟩ := catR hx hy hva hvb (L := [])
        have hhas := fun {i : Nat} (hi : i < (a ++ b).length) => sum_has a6 b6 he hs hi
        have hleast := fun h {k : Nat} (hk : k < (sumR a b).length) => sum_least (c := c) a6 b6 c6 he hs hv h hk
        refine WF.fnE rfl (fn_of Try.func18 cir18) (by show 3 ≤ 138; decide) ?_
        unfold ir18; dsimp only [k0, kI, mV, oO, oG]
        simp only [padTo, List.replicate, List.nil_append, List.append_nil]
        repeat' (first | (refine WO.yes rfl ?_) | (refine WO.opE (by intro; simp (disch := omega) only [go_sem, fillP, zeros]; rfl) (by simp only [pt8, pt0, pt1, pt2, pt3, pt4, pt5, pt6, pt7]; rfl) ?_) | (refine WO.opE (by intro; exact ev_lenS (by simp only [go_sem]; first | rfl | assumption)) (by simp only [pt8, pt3]; rfl) ?_) | (refine WO.specE rfl rfl (c65 _) (by simp only [pt8, pt1]; rfl) ?_) | (refine WO.specE rfl rfl (c72 _) (by simp only [pt8, pt5]; rfl) ?_) | (refine WO.specE rfl rfl (d72 _) (by simp only [pt8, pt3]; rfl) ?_) | (refine WO.specE rfl rfl (d29 _) (by simp only [pt8, pt7]; rfl) ?_) | (refine WO.specE rfl rfl (c26 _) (by simp only [pt8, pt5]; rfl) ?_) | (refine WO.specE rfl rfl (d26 _) (by simp only [pt8, pt2]; rfl) ?_) | (refine WO.opE (by intro; rw [ev_append]; exact a1) (by simp only [pt8, pt0]; rfl) ?_) | (refine WO.opE (by intro; rw [ev_append]; exact b1) (by simp only [pt8, pt2]; rfl) ?_) | (refine WC.seq ?_) | (refine WC.region ?_) | (refine WO.nil ?_) | (simp only [fl1]) | (refine WC.no rfl ?_) | (refine WC.skip ?_) | (refine WC.block ?_))
        clear c72 d72 d29 c26 d26
        refine WC.loopI (fun m t => ∃ T G p i, t = ⟨T, G, []⟩ ∧ T.length = 138 ∧ gt T 2 = z ∧ gt T 7 = .bool true ∧ gt T 8 = xs ∧ gt T 12 = .bool p ∧ gt T 66 = u ∧ gt T 67 = .int .i64 ((a.length + b.length : Nat) : Int) ∧ gt T 68 = .int .i64 (i : Nat) ∧ m + i = a.length + b.length ∧ GS 6 G u q (flatR (a ++ b)) ∧ (p = true → ∀ j, j < i → memD c (rw_ (a ++ b) j))) ?_ (a.length + b.length) _ ⟨_, _, true, 0, rfl, rfl, rfl, rfl, rfl, rfl, rfl, rfl, rfl, by omega, hG, fun _ j hj => by omega⟩
        clear hG a1 b1 H1 H2 v1
        rintro m _ ⟨T, G, p, i, rfl, hT, g2, g7, g8, g12, g66, g67, g68, hm, hG, hp⟩
        obtain ⟨f, rfl⟩ := ex138 hT
        clear hT
        replace g2 : f 2 = z := g2
        replace g7 : f 7 = .bool true := g7
        replace g8 : f 8 = xs := g8
        replace g12 : f 12 = .bool p := g12
        replace g66 : f 66 = u := g66
        replace g67 : f 67 = .int .i64 ((a.length + b.length : Nat) : Int) := g67
        replace g68 : f 68 = .int .i64 (i : Nat) := g68
        simp only [g2, g7, g8, g12, g66, g67, g68]
        by_cases hi : i < a.length + b.length
        · have hi2 : i < (a ++ b).length := by rw [List.length_append]; exact hi
          obtain ⟨g, hat, hlk, hcut, hq⟩ := gs_row hG ab6 hi2
          have k6 : (rw_ (a ++ b) i).length = 6 := six_app a6 b6 _ hi2
          have hov := fun x0 x1 x2 x3 x4 x5 => icells_over6 k6 (x0 := x0) (x1 := x1) (x2 := x2) (x3 := x3) (x4 := x4) (x5 := x5)
          have hml : (icells (rw_ (a ++ b) i)).length = 6 := by rw [icells_len, k6]
          have hcr := icells_cut k6
          have hlk2 : ∀ R, Zz.look (G ++ R) q g = some (flatR (a ++ b)) := fun R => (look_left hq).trans hlk
          obtain ⟨xm, hxm, c66⟩ := x66 hxs (by omega) k6
          have c66 := fun m => c66 m xs (hxs.byVal _)
          obtain ⟨xn, hxn, d66⟩ := x66 hz hc k6
          have d66 := fun m => d66 m z (hz.byVal _)
          have hp' : (p && (decide (memD c (rw_ (a ++ b) i)) && decide (errD c (rw_ (a ++ b) i) = 0))) = true → ∀ j, j < i + 1 → memD c (rw_ (a ++ b) j) := fun h j hj => by
            simp only [Bool.and_eq_true, decide_eq_true_eq] at h
            by_cases e : j = i
            · subst e; exact h.2.1
            · exact hp h.1 j (by omega)
          clear hp
          have hc1 := hhas hi2
          generalize decide (memD c (rw_ (a ++ b) i)) = bc at *
          generalize errD c (rw_ (a ++ b) i) = ec at *
          rcases hc1 with h1 | ⟨h1, h2⟩
          · rw [h1] at c66
            generalize decide (memD (sumR a b) (rw_ (a ++ b) i)) = bs at *
            cases bs
            all_goals
              cases p
              all_goals
                cases bc
                all_goals
                  repeat' (first | (refine WO.yes rfl ?_) | (refine WO.noE rfl (by simp only [pt8, pt0, pt3, pt4, pt7]; rfl) ?_) | (refine WO.opE (by intro; simp (disch := omega) only [go_sem, hat, hlk, hcut, hcr, lk0]; rfl) (by simp only [pt8, pt0, pt1, pt2, pt3, pt4, pt5, pt6, pt7]; rfl) ?_) | (refine WO.opN (by intro; simp (disch := omega) only [go_sem, Option.bind_eq_bind, app_s0, hov, hml, lk0]; rfl) ?_) | (refine WO.specE rfl rfl (c66 _) (by simp only [pt8, pt3]; rfl) ?_) | (refine WO.specE rfl rfl (d66 _) (by simp only [pt8, pt6]; rfl) ?_) | (refine WC.seq ?_) | (refine WC.region ?_) | (refine WO.nil ?_) | (simp only [fl10]) | (refine WC.skip ?_) | (refine WC.block ?_) | (refine WC.em2 rfl (fun hp => ?_) (fun hp => ?_) <;> try (exfalso; first | omega | contradiction)))
                  exact ⟨m - 1, by omega, _, _, _, i + 1, rfl, rfl, rfl, rfl, rfl, rfl, rfl, rfl, rfl, by omega, hG.more _, by first | (simp; done) | simpa using hp'⟩
          · rw [h1, decide_eq_true h2] at c66
            cases p
            all_goals
              cases bc
              all_goals
                repeat' (first | (refine WO.yes rfl ?_) | (refine WO.noE rfl (by simp only [pt8, pt0, pt4, pt7]; rfl) ?_) | (refine WO.opE (by intro; simp (disch := omega) only [go_sem, hat, hlk, hcut, hcr, lk0]; rfl) (by simp only [pt8, pt0, pt1, pt2, pt3, pt4, pt5, pt6, pt7]; rfl) ?_) | (refine WO.opN (by intro; simp (disch := omega) only [go_sem, Option.bind_eq_bind, app_s0, hov, hml, lk0]; rfl) ?_) | (refine WO.specE rfl rfl (c66 _) (by simp only [pt8, pt3]; rfl) ?_) | (refine WO.specE rfl rfl (d66 _) (by simp only [pt8, pt6]; rfl) ?_) | (refine WC.seq ?_) | (refine WC.region ?_) | (refine WO.nil ?_) | (simp only [fl10]) | (refine WC.skip ?_) | (refine WC.block ?_) | (refine WC.em2 rfl (fun hp => ?_) (fun hp => ?_) <;> try (exfalso; first | omega | contradiction)))
                exact ⟨m - 1, by omega, _, _, _, i + 1, rfl, rfl, rfl, rfl, rfl, rfl, rfl, rfl, rfl, by omega, hG.more _, by first | (simp; done) | simpa using hp'⟩
        · have hie : i = a.length + b.length := by omega
          have hin : p = true → ∀ i, i < (a ++ b).length → memD c (rw_ (a ++ b) i) := fun h j hj => hp h j (by rw [List.length_append] at hj; omega)
          clear hp hG hm
          repeat' (first | (refine WO.opE (by intro; simp (disch := omega) only [go_sem]; rfl) (by simp only [pt8, pt3, pt5]; rfl) ?_) | (refine WO.opE (by intro; exact ev_lenS (by simp only [go_sem]; first | rfl | assumption)) (by simp only [pt8, pt4]; rfl) ?_) | (refine WC.seq ?_) | (refine WC.region ?_) | (refine WO.nil ?_) | (simp only [fl1]) | (refine WC.exit ?_) | (refine WC.block ?_) | (refine WC.em2 rfl (fun hp => ?_) (fun hp => ?_) <;> try (exfalso; first | omega | contradiction)))
          refine WC.loopI (fun m t => ∃ T G i, t = ⟨T, G, []⟩ ∧ T.length = 138 ∧ gt T 2 = z ∧ gt T 7 = .bool true ∧ gt T 12 = .bool p ∧ gt T 107 = xs ∧ gt T 108 = .int .i64 ((sumR a b).length : Nat) ∧ gt T 109 = .int .i64 (i : Nat) ∧ m + i = (sumR a b).length) ?_ (sumR a b).length _ ⟨_, _, 0, rfl, rfl, rfl, rfl, rfl, rfl, rfl, rfl, by omega⟩
          clear g2 g7 g8 g12 g66 g67 g68 f hi hie hp G i m
          rintro m _ ⟨T, G, i, rfl, hT, g2, g7, g12, g107, g108, g109, hm⟩
          obtain ⟨f, rfl⟩ := ex138 hT
          clear hT
          replace g2 : f 2 = z := g2
          replace g7 : f 7 = .bool true := g7
          replace g12 : f 12 = .bool p := g12
          replace g107 : f 107 = xs := g107
          replace g108 : f 108 = .int .i64 ((sumR a b).length : Nat) := g108
          replace g109 : f 109 = .int .i64 (i : Nat) := g109
          simp only [g2, g7, g12, g107, g108, g109]
          by_cases hi : i < (sumR a b).length
          · have k6 := hxs.six hi
            have hat := hxs.at hi
            have hcut := cut_row (t := tailr (sumR a b) i) k6
            have hcr : (rw_ (sumR a b) i).map (AV.int .i64) = icells (rw_ (sumR a b) i) := rfl
            rw [hcr] at hat hcut
            have hov := fun x0 x1 x2 x3 x4 x5 => icells_over6 k6 (x0 := x0) (x1 := x1) (x2 := x2) (x3 := x3) (x4 := x4) (x5 := x5)
            have hml : (icells (rw_ (sumR a b) i)).length = 6 := by rw [icells_len, k6]
            have hcr := icells_cut k6
            obtain ⟨xn, hxn, d66⟩ := x66 hz hc k6
            have d66 := fun m => d66 m z (hz.byVal _)
            have hl := fun h => hleast h hi
            cases p
            · generalize decide (memD c (rw_ (sumR a b) i)) = bc at *
              generalize errD c (rw_ (sumR a b) i) = ec at *
              repeat' (first | (refine WO.yes rfl ?_) | (refine WO.noE rfl (by simp only [pt8, pt0, pt1, pt4, pt5, pt6, pt7]; rfl) ?_) | (refine WO.opE (by intro; simp (disch := omega) only [go_sem, hat, hcut, hcr, lk0]; rfl) (by simp only [pt8, pt0, pt1, pt2, pt3, pt4, pt5, pt6, pt7]; rfl) ?_) | (refine WO.opN (by intro; simp (disch := omega) only [go_sem, Option.bind_eq_bind, app_s0, hov, hml, lk0]; rfl) ?_) | (refine WO.specE rfl rfl (d66 _) (by simp only [pt8, pt4]; rfl) ?_) | (refine WC.seq ?_) | (refine WC.region ?_) | (refine WO.nil ?_) | (simp only [fl10]) | (refine WC.skip ?_) | (refine WC.block ?_) | (refine WC.em2 rfl (fun hp => ?_) (fun hp => ?_) <;> try (exfalso; first | omega | contradiction)))
              exact ⟨m - 1, by omega, _, _, i + 1, rfl, rfl, rfl, rfl, rfl, rfl, rfl, rfl, by omega⟩
            · rcases hl (hin rfl) with h1 | ⟨h1, h2⟩
              · rw [h1] at d66
                generalize decide (memD c (rw_ (sumR a b) i)) = bc at *
                cases bc
                all_goals
                  repeat' (first | (refine WO.yes rfl ?_) | (refine WO.noE rfl (by simp only [pt8, pt0, pt7]; rfl) ?_) | (refine WO.opE (by intro; simp (disch := omega) only [go_sem, hat, hcut, hcr, lk0]; rfl) (by simp only [pt8, pt0, pt1, pt2, pt3, pt4, pt5, pt6, pt7]; rfl) ?_) | (refine WO.opN (by intro; simp (disch := omega) only [go_sem, Option.bind_eq_bind, app_s0, hov, hml, lk0]; rfl) ?_) | (refine WO.specE rfl rfl (d66 _) (by simp only [pt8, pt4]; rfl) ?_) | (refine WC.seq ?_) | (refine WC.region ?_) | (refine WO.nil ?_) | (simp only [fl10]) | (refine WC.skip ?_) | (refine WC.block ?_) | (refine WC.em2 rfl (fun hp => ?_) (fun hp => ?_) <;> try (exfalso; first | omega | contradiction)))
                  exact ⟨m - 1, by omega, _, _, i + 1, rfl, rfl, rfl, rfl, rfl, rfl, rfl, rfl, by omega⟩
              · rw [h1, decide_eq_true h2] at d66
                repeat' (first | (refine WO.yes rfl ?_) | (refine WO.noE rfl (by simp only [pt8, pt4, pt5]; rfl) ?_) | (refine WO.opE (by intro; simp (disch := omega) only [go_sem, hat, hcut, hcr, lk0]; rfl) (by simp only [pt8, pt0, pt1, pt2, pt3, pt4, pt5, pt6, pt7]; rfl) ?_) | (refine WO.opN (by intro; simp (disch := omega) only [go_sem, Option.bind_eq_bind, app_s0, hov, hml, lk0]; rfl) ?_) | (refine WO.specE rfl rfl (d66 _) (by simp only [pt8, pt4]; rfl) ?_) | (refine WC.seq ?_) | (refine WC.region ?_) | (refine WO.nil ?_) | (simp only [fl10]) | (refine WC.skip ?_) | (refine WC.block ?_) | (refine WC.em2 rfl (fun hp => ?_) (fun hp => ?_) <;> try (exfalso; first | omega | contradiction)))
                exact ⟨m - 1, by omega, _, _, i + 1, rfl, rfl, rfl, rfl, rfl, rfl, rfl, rfl, by omega⟩
          · have hie : i = (sumR a b).length := by omega
            subst hie
            repeat' (first | (refine WO.opE (by intro; simp (disch := omega) only [go_sem]; rfl) (by simp only [pt8, pt1, pt6]; rfl) ?_) | (refine WC.seq ?_) | (refine WC.region ?_) | (refine WO.nil ?_) | (simp only [fl1]) | (refine WC.exit ?_) | (refine WC.ret ?_) | (refine WC.em2 rfl (fun hp => ?_) (fun hp => ?_) <;> try (exfalso; first | omega | contradiction)))
            exact ⟨_, rfl, rfl⟩
      · rw [decide_eq_false hv] at d26
        refine WF.fnE rfl (fn_of Try.func18 cir18) (by show 3 ≤ 138; decide) ?_
        unfold ir18; dsimp only [k0, kI, mV, oO, oG]
        simp only [padTo, List.replicate, List.nil_append, List.append_nil]
        repeat' (first | (refine WO.yes rfl ?_) | (refine WO.opE (by intro; simp (disch := omega) only [go_sem]; rfl) (by simp only [pt8, pt0, pt1, pt2, pt3, pt4, pt5, pt6, pt7]; rfl) ?_) | (refine WO.specE rfl rfl (c65 _) (by simp only [pt8, pt1]; rfl) ?_) | (refine WO.specE rfl rfl (c72 _) (by simp only [pt8, pt5]; rfl) ?_) | (refine WO.specE rfl rfl (d72 _) (by simp only [pt8, pt3]; rfl) ?_) | (refine WO.specE rfl rfl (d29 _) (by simp only [pt8, pt7]; rfl) ?_) | (refine WO.specE rfl rfl (c26 _) (by simp only [pt8, pt5]; rfl) ?_) | (refine WO.specE rfl rfl (d26 _) (by simp only [pt8, pt2]; rfl) ?_) | (refine WC.seq ?_) | (refine WC.region ?_) | (refine WO.nil ?_) | (simp only [fl1, fl2]) | (refine WC.yes rfl ?_) | (refine WC.ret ?_))
        exact ⟨_, rfl, rfl⟩
    · rw [decide_eq_false hs] at c26
      refine WF.fnE rfl (fn_of Try.func18 cir18) (by show 3 ≤ 138; decide) ?_
      unfold ir18; dsimp only [k0, kI, mV, oO, oG]
      simp only [padTo, List.replicate, List.nil_append, List.append_nil]
      repeat' (first | (refine WO.yes rfl ?_) | (refine WO.noE rfl (by simp only [pt8, pt1, pt2, pt3]; rfl) ?_) | (refine WO.opE (by intro; simp (disch := omega) only [go_sem]; rfl) (by simp only [pt8, pt0, pt1, pt2, pt3, pt4, pt5, pt6, pt7]; rfl) ?_) | (refine WO.specE rfl rfl (c65 _) (by simp only [pt8, pt1]; rfl) ?_) | (refine WO.specE rfl rfl (c72 _) (by simp only [pt8, pt5]; rfl) ?_) | (refine WO.specE rfl rfl (d72 _) (by simp only [pt8, pt3]; rfl) ?_) | (refine WO.specE rfl rfl (d29 _) (by simp only [pt8, pt7]; rfl) ?_) | (refine WO.specE rfl rfl (c26 _) (by simp only [pt8, pt5]; rfl) ?_) | (refine WC.seq ?_) | (refine WC.region ?_) | (refine WO.nil ?_) | (simp only [fl1, fl2]) | (refine WC.yes rfl ?_) | (refine WC.ret ?_))
      exact ⟨_, rfl, rfl⟩
  · generalize errM a b = e at *
    refine WF.fnE rfl (fn_of Try.func18 cir18) (by show 3 ≤ 138; decide) ?_
    unfold ir18; dsimp only [k0, kI, mV, oO, oG]
    simp only [padTo, List.replicate, List.nil_append, List.append_nil]
    repeat' (first | (refine WO.yes rfl ?_) | (refine WO.noE rfl (by simp only [pt8, pt1, pt2, pt3, pt4, pt5, pt6]; rfl) ?_) | (refine WO.opE (by intro; simp (disch := omega) only [go_sem]; rfl) (by simp only [pt8, pt0, pt1, pt2, pt3, pt4, pt5, pt6, pt7]; rfl) ?_) | (refine WO.specE rfl rfl (c65 _) (by simp only [pt8, pt1]; rfl) ?_) | (refine WO.specE rfl rfl (c72 _) (by simp only [pt8, pt5]; rfl) ?_) | (refine WO.specE rfl rfl (d72 _) (by simp only [pt8, pt3]; rfl) ?_) | (refine WO.specE rfl rfl (d29 _) (by simp only [pt8, pt7]; rfl) ?_) | (refine WC.seq ?_) | (refine WC.region ?_) | (refine WO.nil ?_) | (simp only [fl1, fl2]) | (refine WC.yes rfl ?_) | (refine WC.ret ?_) | (refine WO.em2 rfl (by intro hp; simp only [hp]; rfl) (by intro hp; simp only [hp, decide_false]; rfl) (fun hp => ?_) (fun hp => ?_) <;> try (exfalso; first | omega | contradiction)))
    exact ⟨_, rfl, rfl⟩
end Go.Proofs.Ytnilimjkibimcaa

