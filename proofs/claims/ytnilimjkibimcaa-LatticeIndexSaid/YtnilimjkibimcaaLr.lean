import Derived.Test.YtnilimjkibimcaaLm
import Derived.Test.YtnilimjkibimcaaLC
set_option linter.unusedSimpArgs false
set_option linter.unusedVariables false

namespace Go.Proofs.Ytnilimjkibimcaa
open Go.Zz
set_option maxRecDepth 100000
set_option maxHeartbeats 8000000
theorem run19 {x y z : AV} {a b c : List (List Int)} (hx : RwL x a) (hy : RwL y b) (hz : RwL z c) (ha : a.length < 9223372036854775807) (hb : b.length < 9223372036854775807) (hc : c.length < 9223372036854775807) : WF N21 (.func 19 [] []) [x, y, z] ⟨[], []⟩ fun u m' => u = .bool true := by
  have c65 := fun m => s65 (m := m)
  have a6 : Six a := fun i hi => hx.six hi
  have b6 : Six b := fun i hi => hy.six hi
  have c6 : Six c := fun i hi => hz.six hi
  have i1 := fun m => x74 (m := m) hx hy ha hb (hx.byVal _) (hy.byVal _)
  have i2 := fun m => x74 (m := m) hy hz hb hc (hy.byVal _) (hz.byVal _)
  have i3 := fun m => x74 (m := m) hx hz ha hc (hx.byVal _) (hz.byVal _)
  have c70 := fun m => x70 (m := m) hx hy ha hb (hx.byVal _) (hy.byVal _)
  by_cases h1 : errX a b = 0
  · obtain ⟨_, _, p1, p2, p3⟩ := idx_val a6 b6 h1
    have hvv := (errX_zero h1).1
    rw [show errS a b = 0 from if_pos hvv, show decide (sameS a b) = decide (idxV a b = 1) from decide_eq_decide.2 p3] at c70
    rw [h1] at i1
    by_cases h2 : errX b c = 0
    · rw [h2] at i2
      obtain ⟨_, _, q1, q2, _⟩ := idx_val b6 c6 h2
      rcases idx_mul a6 b6 c6 h1 h2 with h3 | ⟨h3, h4⟩
      · rw [h3] at i3
        clear p3
        generalize idxV a b = X at *
        generalize idxV b c = Y at *
        generalize idxV a c = Z at *
        refine WF.fnE rfl (fn_of Try.func19 cir19) (by show 3 ≤ 76; decide) ?_
        unfold ir19; dsimp only [k0, kI, mV, oO, oG]
        simp only [padTo, List.replicate, List.nil_append, List.append_nil]
        repeat' (first | (refine WO.yes rfl ?_) | (refine WO.opE (by intro; simp (disch := omega) only [go_sem]; rfl) (by simp only [pt8, pt0, pt1, pt2, pt3, pt4, pt5, pt6, pt7]; rfl) ?_) | (refine WO.specE rfl rfl (c65 _) (by simp only [pt8, pt7]; rfl) ?_) | (refine WO.specE rfl rfl (i1 _) (by simp only [pt8, pt3]; rfl) ?_) | (refine WO.specE rfl rfl (i2 _) (by simp only [pt8, pt1]; rfl) ?_) | (refine WO.specE rfl rfl (i3 _) (by simp only [pt8, pt2]; rfl) ?_) | (refine WO.specE rfl rfl (c70 _) (by simp only [pt8, pt2]; rfl) ?_) | (refine WC.seq ?_) | (refine WC.region ?_) | (refine WO.nil ?_) | (simp only [fl1, fl2]) | (refine WC.yes rfl ?_) | (refine WC.no rfl ?_) | (refine WC.skip ?_) | (refine WC.ret ?_) | (refine WO.em2 rfl (by intro hp; simp only [hp, decide_true]; rfl) (by intro hp; simp only [hp, decide_false]; rfl) (fun hp => ?_) (fun hp => ?_) <;> try (exfalso; first | omega | contradiction)))
        exact ⟨_, rfl, rfl⟩
      · rw [h3, h4] at i3
        clear p3
        generalize idxV a b = X at *
        generalize idxV b c = Y at *
        have hm := mul_b2 (a := X) (b := Y) (A := 1000000000) (B := 1000000000) (by omega) (by omega)
        refine WF.fnE rfl (fn_of Try.func19 cir19) (by show 3 ≤ 76; decide) ?_
        unfold ir19; dsimp only [k0, kI, mV, oO, oG]
        simp only [padTo, List.replicate, List.nil_append, List.append_nil]
        repeat' (first | (refine WO.yes rfl ?_) | (refine WO.opE (by intro; simp (disch := omega) only [go_sem]; rfl) (by simp only [pt8, pt0, pt1, pt2, pt3, pt4, pt5, pt6, pt7]; rfl) ?_) | (refine WO.specE rfl rfl (c65 _) (by simp only [pt8, pt7]; rfl) ?_) | (refine WO.specE rfl rfl (i1 _) (by simp only [pt8, pt3]; rfl) ?_) | (refine WO.specE rfl rfl (i2 _) (by simp only [pt8, pt1]; rfl) ?_) | (refine WO.specE rfl rfl (i3 _) (by simp only [pt8, pt2]; rfl) ?_) | (refine WO.specE rfl rfl (c70 _) (by simp only [pt8, pt2]; rfl) ?_) | (refine WC.seq ?_) | (refine WC.region ?_) | (refine WO.nil ?_) | (simp only [fl1]) | (refine WC.no rfl ?_) | (refine WC.skip ?_) | (refine WC.ret ?_) | (refine WO.em2 rfl (by intro hp; simp only [hp, decide_true]; rfl) (by intro hp; simp only [hp, decide_false]; rfl) (fun hp => ?_) (fun hp => ?_) <;> try (exfalso; first | omega | contradiction)))
        exact ⟨_, rfl, rfl⟩
    · clear p3
      generalize errX b c = e2 at *
      generalize idxV a b = X at *
      refine WF.fnE rfl (fn_of Try.func19 cir19) (by show 3 ≤ 76; decide) ?_
      unfold ir19; dsimp only [k0, kI, mV, oO, oG]
      simp only [padTo, List.replicate, List.nil_append, List.append_nil]
      repeat' (first | (refine WO.yes rfl ?_) | (refine WO.opE (by intro; simp (disch := omega) only [go_sem]; rfl) (by simp only [pt8, pt0, pt1, pt2, pt3, pt4, pt5, pt6, pt7]; rfl) ?_) | (refine WO.specE rfl rfl (c65 _) (by simp only [pt8, pt7]; rfl) ?_) | (refine WO.specE rfl rfl (i1 _) (by simp only [pt8, pt3]; rfl) ?_) | (refine WO.specE rfl rfl (i2 _) (by simp only [pt8, pt1]; rfl) ?_) | (refine WO.specE rfl rfl (c70 _) (by simp only [pt8, pt2]; rfl) ?_) | (refine WC.seq ?_) | (refine WC.region ?_) | (refine WO.nil ?_) | (simp only [fl1, fl2]) | (refine WC.no rfl ?_) | (refine WC.skip ?_) | (refine WC.ret ?_) | (refine WO.em2 rfl (by intro hp; simp only [hp, decide_true]; rfl) (by intro hp; simp only [hp, decide_false]; rfl) (fun hp => ?_) (fun hp => ?_) <;> try (exfalso; first | omega | contradiction)) | (refine WC.em2 rfl (fun hp => ?_) (fun hp => ?_) <;> try (exfalso; first | omega | contradiction)))
      exact ⟨_, rfl, rfl⟩
  · generalize errX a b = e1 at *
    refine WF.fnE rfl (fn_of Try.func19 cir19) (by show 3 ≤ 76; decide) ?_
    unfold ir19; dsimp only [k0, kI, mV, oO, oG]
    simp only [padTo, List.replicate, List.nil_append, List.append_nil]
    repeat' (first | (refine WO.opE (by intro; simp (disch := omega) only [go_sem]; rfl) (by simp only [pt8, pt0, pt1, pt2, pt3, pt4, pt5, pt6, pt7]; rfl) ?_) | (refine WO.specE rfl rfl (c65 _) (by simp only [pt8, pt7]; rfl) ?_) | (refine WO.specE rfl rfl (i1 _) (by simp only [pt8, pt3]; rfl) ?_) | (refine WO.specE rfl rfl (i2 _) (by simp only [pt8, pt1]; rfl) ?_) | (refine WC.seq ?_) | (refine WC.region ?_) | (refine WO.nil ?_) | (simp only [fl1, fl2]) | (refine WC.ret ?_) | (refine WC.em2 rfl (fun hp => ?_) (fun hp => ?_) <;> try (exfalso; first | omega | contradiction)))
    exact ⟨_, rfl, rfl⟩
end Go.Proofs.Ytnilimjkibimcaa

