import Derived.Test.YtnilimjkibimcaaRR

set_option linter.unusedSimpArgs false
set_option linter.unusedVariables false

namespace Go.Proofs.Ytnilimjkibimcaa
open Go.Zz
set_option maxRecDepth 100000
set_option maxHeartbeats 8000000
noncomputable def O13 : Env := O12.put 77 (borrowE O9 77)
theorem O13_ok : EnvOk Try.prog O13 := Env.put_ok O12_ok (borrowE_ok O9_ok (callable Try.func77 (by kernel_rfl)))
theorem quoD_le (rows : List (List Int)) (h6 : Six rows) (v : List Int) : (quoM rows v).length ≤ 6 := by
 unfold quoM
 split
 ·rename_i h
  have hc := errD_zero h.1
  rw [show quoD rows v = quosL (hermF rows) (fwdF rows).js v (hermF rows).length from if_pos hc]
  unfold quosL
  rw [List.length_map, List.length_range]
  exact (herm_divB hc.1.1 h6).le
 ·exact Nat.zero_le _
theorem run14 {x y : AV} {a b : List (List Int)} {v : List Int} (hx : RwL x a) (hy : RwL y b) (ha : a.length < 9223372036854775807) (hb : b.length < 9223372036854775807) (hv6 : v.length = 6) : WF O13 (.func 14 [] []) [x, y, .agg (icells v)] ⟨[], []⟩ fun u m' => u = .bool true := by
 have c65 := fun m => s65 (m := m)
 have a6 : Six a := fun i hi => hx.six hi
 have b6 : Six b := fun i hi => hy.six hi
 have hcv := icells_cut hv6
 have hvl : (icells v).length = 6 := by rw [icells_len, hv6]
 have hr6 := remD_len a hv6
 have hcr := icells_cut hr6
 have hrl : (icells (remD a v)).length = 6 := by rw [icells_len, hr6]
 have hov := fun x0 x1 x2 x3 x4 x5 => icells_over6 hr6 (x0 := x0) (x1 := x1) (x2 := x2) (x3 := x3) (x4 := x4) (x5 := x5)
 have hce := cellsEq_int (r := remD a v) (r' := remD a v) rfl
 rw [hr6, decide_eq_true rfl] at hce
 have hce : cellsEq [true, true, true, true, true, true] (icells (remD a v)) (icells (remD a v)) = some true := hce
 obtain ⟨x1, hx1, c66⟩ := x66 hx ha hv6
 have c66 := fun m => c66 m x (hx.byVal _)
 obtain ⟨x2, hx2, c67⟩ := s67 hx ha hv6
 have hx2 : IntS x2 (quoM a v) := hx2
 have d34 := fun m => x34 (m := m) hx1 hx2 (by have := quoD_le a a6 v; omega) (hx1.byVal _) (hx2.byVal _)
 rw [decide_eq_true rfl] at d34
 have c68 := fun m => x68 (m := m) hx ha hv6 (hx.byVal _)
 have c69 := fun m => s69 (m := m) hx ha hv6
 have c70 := fun m => x70 (m := m) hx hy ha hb (hx.byVal _) (hy.byVal _)
 have c71 := fun m => s71 (m := m) hx hy ha hb
 obtain ⟨x3, hx3, c72⟩ := x72 hx hy ha hb
 have c72 := fun m => c72 m x y (hx.byVal _) (hy.byVal _)
 obtain ⟨x4, hx4, c73⟩ := s73 hx hy ha hb
 have hsl : (sumR a b).length ≤ 6 := by
  unfold sumR
  split
  ·exact hermR_len _ (six_app a6 b6)
  ·exact Nat.zero_le _
 have d29 := fun m => x29 (m := m) hx3 hx4 (by omega) (hx3.byVal _) (hx4.byVal _)
 rw [decide_eq_true rfl] at d29
 have c74 := fun m => x74 (m := m) hx hy ha hb (hx.byVal _) (hy.byVal _)
 have c75 := fun m => s75 (m := m) hx hy ha hb
 have c76 := fun m => x76 (m := m) hx ha hv6 (hx.byVal _)
 have c77 := fun m => s77 (m := m) hx ha hv6
 have hq : (if memD a v then quoD a v else []) = quoM a v := rfl
 generalize decide (memD a v) = bm at *
 generalize errD a v = ed at *
 generalize decide (sameS a b) = bs at *
 generalize errS a b = es at *
 generalize errM a b = em at *
 generalize idxV a b = iv at *
 generalize errX a b = ex at *
 generalize ordD a v = od at *
 generalize errO a v = eo at *
 clear hq hsl a6 b6
 cases bm
 all_goals
  cases bs
  all_goals
   refine WF.fnE rfl (fn_of Try.func14 cir14) (by show 3 ≤ 168; decide) ?_
   unfold ir14
   simp only [padTo, List.replicate, zNA, zAN]
   repeat' (first | (refine WO.yes rfl ?_) | (refine WO.opE (by intro; simp (disch := omega) only [go_sem, Zz.look, zCA, zNA, Nat.reduceAdd, hcv, hcr, hce]; rfl) (by simp only [pt8, pt0, pt1, pt2, pt3, pt4, pt5, pt6, pt7]; rfl) ?_) | (refine WO.opN (by intro; simp (disch := omega) only [go_sem, Zz.look, Option.bind_eq_bind, hrl, hov, setBlk, List.set_cons_zero, List.set_cons_succ]; rfl) ?_) | (refine WO.specE rfl rfl (c65 _) (by simp only [pt8, pt6]; rfl) ?_) | (refine WO.specE rfl rfl (c66 _) (by simp only [pt8, pt2]; rfl) ?_) | (refine WO.specE rfl rfl (c67 _) (by simp only [pt8, pt1]; rfl) ?_) | (refine WO.specE rfl rfl (c68 _) (by simp only [pt8, pt0]; rfl) ?_) | (refine WO.specE rfl rfl (c69 _) (by simp only [pt8, pt6]; rfl) ?_) | (refine WO.specE rfl rfl (c70 _) (by simp only [pt8, pt7]; rfl) ?_) | (refine WO.specE rfl rfl (c71 _) (by simp only [pt8, pt5]; rfl) ?_) | (refine WO.specE rfl rfl (c72 _) (by simp only [pt8, pt6]; rfl) ?_) | (refine WO.specE rfl rfl (c73 _) (by simp only [pt8, pt4]; rfl) ?_) | (refine WO.specE rfl rfl (c74 _) (by simp only [pt8, pt5]; rfl) ?_) | (refine WO.specE rfl rfl (c75 _) (by simp only [pt8, pt3]; rfl) ?_) | (refine WO.specE rfl rfl (c76 _) (by simp only [pt8, pt4]; rfl) ?_) | (refine WO.specE rfl rfl (c77 _) (by simp only [pt8, pt2]; rfl) ?_) | (refine WO.specE rfl rfl (d34 _) (by simp only [pt8, pt1]; rfl) ?_) | (refine WO.specE rfl rfl (d29 _) (by simp only [pt8, pt3]; rfl) ?_) | (refine WC.seq ?_) | (refine WC.region ?_) | (refine WO.nil ?_) | (simp only [fl1]) | (refine WC.ret ?_))
   exact ⟨_, rfl, rfl⟩
end Go.Proofs.Ytnilimjkibimcaa

