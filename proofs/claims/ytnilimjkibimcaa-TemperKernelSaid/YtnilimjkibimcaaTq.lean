import Derived.Test.YtnilimjkibimcaaTh
import Derived.Test.YtnilimjkibimcaaPo
import Derived.Test.YtnilimjkibimcaaLA
import Derived.Test.YtnilimjkibimcaaPv
set_option linter.unusedSimpArgs false
set_option linter.unusedVariables false

namespace Go.Proofs.Ytnilimjkibimcaa
open Go.Zz
set_option maxRecDepth 100000
set_option maxHeartbeats 8000000
noncomputable def T24 : Env := T23.put 66 (borrowE M5 66)
theorem T24_ok : EnvOk Try.prog T24 := Env.put_ok T23_ok (borrowE_ok M5_ok (callable Try.func66 (by kernel_rfl)))
theorem temp_ker {rows : List (List Int)} {v : List Int} (h6 : Six rows) (hv6 : v.length = 6) (ht : VT rows) (hv : okB 48 v) : tempR rows v = true ↔ RowL (ent (kerF rows)) (kerF rows).length (vF v) := by
  have hK := ker_lat ht.2.2.1 h6
  refine Iff.trans ?_ (hK.sp _).symm
  unfold tempR
  rw [decide_eq_true_iff]
  constructor
  · intro h i hi
    have := h.2 i hi
    rw [img_at hi] at this
    exact this
  · intro h
    refine ⟨⟨ht, hv⟩, fun t hi => ?_⟩
    rw [img_at hi]
    exact h t hi
theorem run22 {l : AV} {rows : List (List Int)} {v : List Int} (hl : RwL l rows) (hmax : rows.length < 9223372036854775807) (hv6 : v.length = 6) : WF T24 (.func 22 [] []) [.agg [l], .agg (icells v)] ⟨[], []⟩ fun y m' => y = .bool true := by
  have hlc := hl.cells
  unfold AV.cells at hlc
  have h6 : Six rows := fun i hi => hl.six hi
  have hmv : (icells v).length = 6 := by rw [icells_len, hv6]
  have hcv := icells_cut hv6
  have c44 := fun m => s44 (m := m)
  have c45 := fun m => x45 (m := m) hl hmax (hl.byC _)
  have c61 := fun m => s61 (m := m) hv6
  by_cases ht : VT rows
  · rw [decide_eq_true ht] at c45
    by_cases hv : okB 48 v
    · rw [decide_eq_true hv] at c61
      obtain ⟨xk, hxk, c52⟩ := x52 hl hmax
      have c52 := fun m => c52 m l (hl.byC _)
      have e1 : kerT rows = kerF rows := if_pos ht
      have e2 : errT rows = 0 := if_pos ht
      have e3 : errI rows v = 0 := if_pos ⟨ht, hv⟩
      rw [e1] at hxk
      rw [e2] at c52
      have c50 := fun m => x50 (v := v) (m := m) hl hmax hv6 (hl.byC _)
      rw [e3] at c50
      have hkl : (kerF rows).length ≤ 6 := by
        have h1 := kern_len ht.2.2.1 h6
        have e3 : kernR rows = kerF rows := if_pos ht.2.2.1
        rw [e3] at h1
        omega
      obtain ⟨xm, hxm, c66⟩ := s66 hxk (by omega) hv6
      have hxc := hxm.cells
      unfold AV.cells at hxc
      have h6k : Six (kerF rows) := fun i hi => hxk.six hi
      by_cases he : errD (kerF rows) v = 0
      · have hm : decide (memD (kerF rows) v) = tempR rows v := by
          rw [Bool.eq_iff_iff, decide_eq_true_iff, temp_ker h6 hv6 ht hv, ← memD_iff h6k hv6 he]
          exact ⟨fun h => h.2, fun h => ⟨he, h⟩⟩
        rw [hm, he] at c66
        generalize tempR rows v = b at *
        cases b
        all_goals
          refine WF.fnE rfl (fn_of Try.func22 cir22) (by show 2 ≤ 57; decide) ?_
          unfold ir22; dsimp only [k0, kI, mV, oO, oG]
          simp only [padTo, List.replicate, List.nil_append, List.append_nil]
          repeat' (first | (refine WO.yes rfl ?_) | (refine WO.opE (by intro; simp (disch := omega) only [go_sem, Zz.look, hcv]; rfl) (by simp only [pt8, pt0, pt1, pt2, pt3, pt4, pt5, pt6, pt7]; rfl) ?_) | (refine WO.specE rfl rfl (c44 _) (by simp only [pt8, pt5]; rfl) ?_) | (refine WO.specE rfl rfl (c45 _) (by simp only [pt8, pt7]; rfl) ?_) | (refine WO.specE rfl rfl (c61 _) (by simp only [pt8, pt3]; rfl) ?_) | (refine WO.specE rfl rfl (c52 _) (by simp only [pt8, pt1]; rfl) ?_) | (refine WO.specE rfl rfl (c50 _) (by simp only [pt8, pt7]; rfl) ?_) | (refine WO.specE rfl rfl (c66 _) (by simp only [pt8, pt3]; rfl) ?_) | (refine WC.seq ?_) | (refine WC.region ?_) | (refine WO.nil ?_) | (simp only [fl1]) | (refine WC.no rfl ?_) | (refine WC.skip ?_) | (refine WC.ret ?_))
          exact ⟨_, rfl, rfl⟩
      · generalize decide (memD (kerF rows) v) = b at *
        generalize tempR rows v = b2 at *
        generalize errD (kerF rows) v = e at *
        refine WF.fnE rfl (fn_of Try.func22 cir22) (by show 2 ≤ 57; decide) ?_
        unfold ir22; dsimp only [k0, kI, mV, oO, oG]
        simp only [padTo, List.replicate, List.nil_append, List.append_nil]
        repeat' (first | (refine WO.yes rfl ?_) | (refine WO.noE rfl (by simp only [pt8, pt4, pt5, pt6]; rfl) ?_) | (refine WO.opE (by intro; simp (disch := omega) only [go_sem, Zz.look, hcv]; rfl) (by simp only [pt8, pt0, pt1, pt2, pt3, pt4, pt5, pt6, pt7]; rfl) ?_) | (refine WO.specE rfl rfl (c44 _) (by simp only [pt8, pt5]; rfl) ?_) | (refine WO.specE rfl rfl (c45 _) (by simp only [pt8, pt7]; rfl) ?_) | (refine WO.specE rfl rfl (c61 _) (by simp only [pt8, pt3]; rfl) ?_) | (refine WO.specE rfl rfl (c52 _) (by simp only [pt8, pt1]; rfl) ?_) | (refine WO.specE rfl rfl (c50 _) (by simp only [pt8, pt7]; rfl) ?_) | (refine WO.specE rfl rfl (c66 _) (by simp only [pt8, pt3]; rfl) ?_) | (refine WC.seq ?_) | (refine WC.region ?_) | (refine WO.nil ?_) | (simp only [fl1]) | (refine WC.no rfl ?_) | (refine WC.skip ?_) | (refine WC.ret ?_) | (refine WO.em2 rfl (by intro hp; simp only [hp]; rfl) (by intro hp; simp only [hp, decide_false]; rfl) (fun hp => ?_) (fun hp => ?_) <;> try (exfalso; first | omega | contradiction)))
        exact ⟨_, rfl, rfl⟩
    · rw [decide_eq_false hv] at c61
      refine WF.fnE rfl (fn_of Try.func22 cir22) (by show 2 ≤ 57; decide) ?_
      unfold ir22; dsimp only [k0, kI, mV, oO, oG]
      simp only [padTo, List.replicate, List.nil_append, List.append_nil]
      repeat' (first | (refine WO.yes rfl ?_) | (refine WO.opE (by intro; simp (disch := omega) only [go_sem, Zz.look, hcv]; rfl) (by simp only [pt8, pt0, pt1, pt2, pt3, pt4, pt5, pt6]; rfl) ?_) | (refine WO.specE rfl rfl (c44 _) (by simp only [pt8, pt5]; rfl) ?_) | (refine WO.specE rfl rfl (c45 _) (by simp only [pt8, pt7]; rfl) ?_) | (refine WO.specE rfl rfl (c61 _) (by simp only [pt8, pt3]; rfl) ?_) | (refine WC.seq ?_) | (refine WC.region ?_) | (refine WO.nil ?_) | (simp only [fl1, fl2]) | (refine WC.yes rfl ?_) | (refine WC.ret ?_))
      exact ⟨_, rfl, rfl⟩
  · rw [decide_eq_false ht] at c45
    refine WF.fnE rfl (fn_of Try.func22 cir22) (by show 2 ≤ 57; decide) ?_
    unfold ir22; dsimp only [k0, kI, mV, oO, oG]
    simp only [padTo, List.replicate, List.nil_append, List.append_nil]
    repeat' (first | (refine WO.noE rfl (by simp only [pt8, pt2, pt3, pt4]; rfl) ?_) | (refine WO.opE (by intro; simp (disch := omega) only [go_sem, Zz.look]; rfl) (by simp only [pt8, pt0, pt1, pt2, pt3, pt4, pt5, pt6]; rfl) ?_) | (refine WO.specE rfl rfl (c44 _) (by simp only [pt8, pt5]; rfl) ?_) | (refine WO.specE rfl rfl (c45 _) (by simp only [pt8, pt7]; rfl) ?_) | (refine WC.seq ?_) | (refine WC.region ?_) | (refine WO.nil ?_) | (simp only [fl1, fl2]) | (refine WC.yes rfl ?_) | (refine WC.ret ?_))
    exact ⟨_, rfl, rfl⟩
end Go.Proofs.Ytnilimjkibimcaa

