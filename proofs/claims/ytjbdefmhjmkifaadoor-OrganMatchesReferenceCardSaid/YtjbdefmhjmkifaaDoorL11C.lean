import Derived.Test.YtjbdefmhjmkifaaDoorL11B

set_option linter.unusedSimpArgs false
set_option linter.unusedVariables false
namespace Go.Proofs.YtjbdefmhjmkifaaDoor
open Go.Zz
set_option maxRecDepth 100000
set_option maxHeartbeats 1000000
/-! ### Need -/
/-- What may lack, at most, by the first pipes. -/
def lackN (ps : List Pipe) (tol : Int) (ids : List Int) (w d : Int) : Nat → Int
  | 0 => d
  | i + 1 => let p := pipeOf ps (ids.getD i 0)
    if 0 < p.sag then min (lackN ps tol ids w d i) (Int.tdiv (max (p.warm * w + tol * 10000) 0) p.sag) else lackN ps tol ids w d i
theorem lackN_bnd {ps : List Pipe} {tol : Int} {ids : List Int} {w d : Int} (hd : 0 ≤ d) : ∀ i, 0 ≤ lackN ps tol ids w d i ∧ lackN ps tol ids w d i ≤ d
  | 0 => by simp [lackN, hd]
  | i + 1 => by
    have ih := lackN_bnd (ps := ps) (tol := tol) (ids := ids) (w := w) hd i
    unfold lackN
    simp only
    split
    · rename_i hs
      have h1 : 0 ≤ Int.tdiv (max ((pipeOf ps (ids.getD i 0)).warm * w + tol * 10000) 0) (pipeOf ps (ids.getD i 0)).sag := Int.tdiv_nonneg (by omega) (by omega)
      omega
    · exact ih
theorem lackN_skip {ps : List Pipe} {tol : Int} {ids : List Int} {w d : Int} {i : Nat} (hp : ¬ pos ps (ids.getD i 0) < ps.length) : lackN ps tol ids w d (i + 1) = lackN ps tol ids w d i := by
  show (if 0 < (pipeOf ps (ids.getD i 0)).sag then _ else _) = _
  rw [pipeOf_none hp]
  rfl
/-- Need's answer. -/
def needV (ps : List Pipe) (sup tol : Int) (ids : List Int) (w : Int) : Int × Int :=
  if setE ps sup tol ids w = 0 then if Stead ps tol ids (lackN ps tol ids w (dem ps ids) ids.length) w then (dem ps ids - lackN ps tol ids w (dem ps ids) ids.length, 0) else (0, 21) else (0, setE ps sup tol ids w)
theorem setE_0 {ps : List Pipe} {sup tol : Int} {ids : List Int} {w : Int} (h : okSet ps sup tol ids w) : setE ps sup tol ids 0 = 0 := setE_ok.2 ⟨h.1, by omega, h.2.2.1, h.2.2.2⟩

theorem f19 {pv iv : AV} {ps : List Pipe} {ids : List Int} {sup tol warm : Int} (hq : PpL pv ps) (hmax : ps.length < 9223372036854775807) (hiv : IntS iv ids) (himax : ids.length < 9223372036854775807) :
    WF E16 (.func 19 [] []) [.agg [pv, .int .i64 sup, .int .i64 tol], iv, .int .i64 warm] ⟨[], []⟩ fun y m' => y = .tuple [.int .i64 (needV ps sup tol ids warm).1, .int .i64 (needV ps sup tol ids warm).2] := by
  have h38 := fun m => s38 (sup := sup) (tol := tol) (warm := warm) hq hmax hiv himax (m := m)
  have h13 := fun m => s13 (sup := sup) (tol := tol) hq hmax hiv himax (m := m) (hiv.byVal _)
  have hic := hiv.cells
  by_cases h0 : setE ps sup tol ids warm = 0
  · have ok := setE_ok.1 h0
    simp only [h0, setE_0 ok, if_true, true_and] at h38 h13
    obtain ⟨hv, hw, hr, hh⟩ := ok
    have ht := hv.2.2.2
    have hl := ris_len hv hr hh
    have hd : 0 ≤ dem ps ids ∧ dem ps ids ≤ 1000000 := by
      have := demN_bnd hv ids ids.length (Nat.le_refl _)
      have e : demN ps ids ids.length = dem ps ids := rfl
      rw [e] at this
      omega
    have hb := fun i => lackN_bnd (ps := ps) (tol := tol) (ids := ids) (w := warm) hd.1 i
    have hbe := hb ids.length
    have hic2 := hic
    unfold AV.cells at hic2
    refine WF.fnE rfl (fn_of Tryd.func19 cir19) (by show 3 ≤ 64; decide) ?_
    unfold ir19
    simp only [padTo, List.replicate, List.nil_append, List.append_nil, List.cons_append]
    repeat' (first | (refine WO.opE (by intro; simp (disch := omega) only [go_sem, zeros, Zz.look, List.append_assoc, List.length_append, ov_one0, fov4, Nat.reduceAdd, Nat.reduceMul, Nat.reduceSub, Nat.reduceLeDiff, Nat.reduceEqDiff, Int.reduceNeg, Int.reduceAdd, Int.reduceToNat, reduceIte, reduceCtorEq, List.map_cons, List.map_nil, over5, hic2]; rfl) (by simp only [pt8, pt0, pt1, pt2, pt3, pt4, pt5, pt6, pt7]; rfl) ?_) | (refine WO.opN (by intro; simp (disch := omega) only [go_sem, zeros, Zz.look, List.append_assoc, List.length_append, ov_one0, fov4, Nat.reduceAdd, Nat.reduceMul, Nat.reduceSub, Nat.reduceLeDiff, Nat.reduceEqDiff, Int.reduceNeg, Int.reduceAdd, Int.reduceToNat, reduceIte, reduceCtorEq, List.map_cons, List.map_nil, over5, hic2]; rfl) ?_) | (refine WO.specE rfl rfl (h38 _) (by simp only [pt8, pt0, pt1, pt2, pt3, pt4, pt5, pt6, pt7]; rfl) ?_) | (refine WO.specE rfl rfl (h13 _) (by simp only [pt8, pt0, pt1, pt2, pt3, pt4, pt5, pt6, pt7]; rfl) ?_) | (refine WO.callE rfl rfl (f39 (E := E16) rfl (fn_of Tryd.func39 cir39) (iv := iv) hic rfl) (by simp only [pt8, pt0, pt1, pt2, pt3, pt4, pt5, pt6, pt7]; rfl) ?_) | (refine WC.seq ?_) | (refine WC.region ?_) | (refine WO.nil ?_) | (simp only [fl1, fl2, fl3, fl4, fl5, fl6, fl7, fl8, fl9, fl10, Nat.reduceBEq]) | (refine WC.no rfl ?_) | (refine WC.skip ?_) | (refine WC.block ?_))
    refine WC.rangeFuncN rfl ((f70 (E := E16) (sup := sup) (tol := tol) (qi := 4) (qo := 3) (iv := iv) (ids := ids) rfl (fn_of Tryd.func70 cir70) rfl hq hmax (by omega) (fun i H => ∃ R, H = some ⟨0, [pv, .int .i64 sup, .int .i64 tol]⟩ :: some ⟨0, [.int .i64 warm]⟩ :: some ⟨0, [pv, .int .i64 sup, .int .i64 tol, iv, .int .i64 (lackN ps tol ids warm (dem ps ids) i)]⟩ :: some ⟨0, [pv, .int .i64 sup, .int .i64 tol]⟩ :: some ⟨0, [iv]⟩ :: R) (fun _ => False) ⟨[], rfl⟩ ?_ ?_ ?_ ?_).mono ?_)
    · rintro i H ⟨R, rfl⟩
      exact ⟨intS_rd hiv _, rfl, rfl⟩
    · rintro i H b ⟨R, rfl⟩
      exact ⟨R ++ [b], rfl⟩
    · rintro i H hi1 hi2 ⟨R, rfl⟩
      rw [lackN_skip hi2]
      exact ⟨R, rfl⟩
    · rintro i H hi1 hi2 ⟨R, rfl⟩
      have hp44 := (hv.at (ids.getD i 0)).2.2
      have hbi := hb i
      have m1 := mul_bnd hp44.2.2.1 hp44.2.2.2 hw.1 hw.2
      have hs : lackN ps tol ids warm (dem ps ids) (i + 1) = if 0 < (pipeOf ps (ids.getD i 0)).sag then min (lackN ps tol ids warm (dem ps ids) i) (Int.tdiv (max ((pipeOf ps (ids.getD i 0)).warm * warm + tol * 10000) 0) (pipeOf ps (ids.getD i 0)).sag) else lackN ps tol ids warm (dem ps ids) i := rfl
      have tb : 0 < (pipeOf ps (ids.getD i 0)).sag → 0 ≤ Int.tdiv (max ((pipeOf ps (ids.getD i 0)).warm * warm + tol * 10000) 0) (pipeOf ps (ids.getD i 0)).sag ∧ Int.tdiv (max ((pipeOf ps (ids.getD i 0)).warm * warm + tol * 10000) 0) (pipeOf ps (ids.getD i 0)).sag ≤ max ((pipeOf ps (ids.getD i 0)).warm * warm + tol * 10000) 0 := fun hs =>
        ⟨Int.tdiv_nonneg (by omega) (by omega), by rw [Int.tdiv_eq_ediv_of_nonneg (by omega)]; exact Int.ediv_le_self _ (by omega)⟩
      refine WF.yieldN rfl rfl ?_
      generalize hL1 : ([] ++ [_] : List (Option ALoop)).set _ _ = L1
      clear hL1
      simp only [setAll, pt8, pt0, pt1, pt2, pt3, pt4, pt5, pt6, pt7]
      repeat' (first | (refine WO.opE (by intro; simp (disch := omega) only [go_sem, zeros, Zz.look, List.append_assoc, List.length_append, ov_one0, fov4, Nat.reduceAdd, Nat.reduceMul, Nat.reduceSub, Nat.reduceLeDiff, Nat.reduceEqDiff, Int.reduceNeg, Int.reduceAdd, Int.reduceToNat, reduceIte, reduceCtorEq, Pipe.cells, over10, app_g0, app_g1, app_g2, app_g3, app_g4, app_s0, app_s1, app_s2, app_s3, app_s4]; rfl) (by simp only [pt8, pt0, pt1, pt2, pt3, pt4, pt5, pt6, pt7]; rfl) ?_) | (refine WO.opN (by intro; simp (disch := omega) only [go_sem, zeros, Zz.look, List.append_assoc, List.length_append, ov_one0, fov4, Nat.reduceAdd, Nat.reduceMul, Nat.reduceSub, Nat.reduceLeDiff, Nat.reduceEqDiff, Int.reduceNeg, Int.reduceAdd, Int.reduceToNat, reduceIte, reduceCtorEq, Pipe.cells, over10, app_g0, app_g1, app_g2, app_g3, app_g4, app_s0, app_s1, app_s2, app_s3, app_s4]; rfl) ?_) | (refine WC.region ?_) | (refine WO.nil ?_) | (simp only [fl1, fl2, fl3, fl4, fl5, fl6, fl7, fl8, fl9, fl10, Nat.reduceBEq]))
      refine ⟨trivial, rfl, ?_⟩
      by_cases hsg : 0 < (pipeOf ps (ids.getD i 0)).sag
      · obtain ⟨tb1, tb2⟩ := tb hsg
        have hne : ¬ (pipeOf ps (ids.getD i 0)).sag = 0 := by omega
        rw [if_pos hsg] at hs
        repeat' (first | (refine WO.opE (by intro; simp (disch := omega) only [go_sem, zeros, Zz.look, List.append_assoc, List.length_append, ov_one0, fov4, Nat.reduceAdd, Nat.reduceMul, Nat.reduceSub, Nat.reduceLeDiff, Nat.reduceEqDiff, Int.reduceNeg, Int.reduceAdd, Int.reduceToNat, reduceIte, reduceCtorEq, Pipe.cells, over10, hne, app_g0, app_g1, app_g2, app_g3, app_g4, app_s0, app_s1, app_s2, app_s3, app_s4]; rfl) (by simp only [pt8, pt0, pt1, pt2, pt3, pt4, pt5, pt6, pt7]; rfl) ?_) | (refine WO.opN (by intro; simp (disch := omega) only [go_sem, zeros, Zz.look, List.append_assoc, List.length_append, ov_one0, fov4, Nat.reduceAdd, Nat.reduceMul, Nat.reduceSub, Nat.reduceLeDiff, Nat.reduceEqDiff, Int.reduceNeg, Int.reduceAdd, Int.reduceToNat, reduceIte, reduceCtorEq, Pipe.cells, over10, hne, app_g0, app_g1, app_g2, app_g3, app_g4, app_s0, app_s1, app_s2, app_s3, app_s4]; rfl) ?_) | (refine WC.seq ?_) | (refine WC.region ?_) | (refine WO.nil ?_) | (simp only [fl1, fl2, fl3, fl4, fl5, fl6, fl7, fl8, fl9, fl10, Nat.reduceBEq]) | (refine WC.calm rfl ?_) | (refine WC.block ?_) | (refine WC.em2 rfl (fun hp => ?_) (fun hp => ?_) <;> try (exfalso; first | omega | contradiction)))
        exact ⟨trivial, by first | rfl | trivial, .inl ⟨by first | rfl | trivial, by first | rfl | trivial, _, by rw [hs]⟩⟩
      · rw [if_neg hsg] at hs
        repeat' (first | (refine WO.opE (by intro; simp (disch := omega) only [go_sem, zeros, Zz.look, List.append_assoc, List.length_append, ov_one0, fov4, Nat.reduceAdd, Nat.reduceMul, Nat.reduceSub, Nat.reduceLeDiff, Nat.reduceEqDiff, Int.reduceNeg, Int.reduceAdd, Int.reduceToNat, reduceIte, reduceCtorEq, Pipe.cells, over10, app_g0, app_g1, app_g2, app_g3, app_g4, app_s0, app_s1, app_s2, app_s3, app_s4]; rfl) (by simp only [pt8, pt0, pt1, pt2, pt3, pt4, pt5, pt6, pt7]; rfl) ?_) | (refine WC.seq ?_) | (refine WC.region ?_) | (refine WO.nil ?_) | (simp only [fl1, fl2, fl3, fl4, fl5, fl6, fl7, fl8, fl9, fl10, Nat.reduceBEq]) | (refine WC.skip ?_) | (refine WC.block ?_) | (refine WC.em2 rfl (fun hp => ?_) (fun hp => ?_) <;> try (exfalso; first | omega | contradiction)))
        exact ⟨trivial, by first | rfl | trivial, .inl ⟨by first | rfl | trivial, by first | rfl | trivial, _, by rw [hs]⟩⟩
    · rintro v m' (⟨h1, R, h2⟩ | h)
      · refine ⟨h1, ?_⟩
        rw [h2]
        by_cases hst : Stead ps tol ids (lackN ps tol ids warm (dem ps ids) ids.length) warm
        · have hn : needV ps sup tol ids warm = (dem ps ids - lackN ps tol ids warm (dem ps ids) ids.length, 0) := by
            unfold needV
            rw [if_pos h0, if_pos hst]
          rw [hn]
          repeat' (first | (refine WO.opE (by intro; simp (disch := omega) only [go_sem, zeros, Zz.look, List.append_assoc, List.length_append, ov_one0, fov4, Nat.reduceAdd, Nat.reduceMul, Nat.reduceSub, Nat.reduceLeDiff, Nat.reduceEqDiff, Int.reduceNeg, Int.reduceAdd, Int.reduceToNat, reduceIte, reduceCtorEq, fillP, over5]; rfl) (by simp only [pt8, pt0, pt1, pt2, pt3, pt4, pt5, pt6, pt7]; rfl) ?_) | (refine WO.specE rfl rfl (s47 hq hmax hiv himax hv hw (by omega)) (by simp only [pt8, pt0, pt1, pt2, pt3, pt4, pt5, pt6, pt7]; rfl) ?_) | (refine WC.seq ?_) | (refine WC.region ?_) | (refine WO.nil ?_) | (simp only [fl1, fl2, fl3, fl4, fl5, fl6, fl7, fl8, fl9, fl10, Nat.reduceBEq]) | (refine WC.skip ?_) | (refine WC.ret ?_) | (refine WC.em2 rfl (fun hp => ?_) (fun hp => ?_) <;> try (exfalso; first | omega | contradiction)))
          exact ⟨_, rfl, rfl⟩
        · have hn : needV ps sup tol ids warm = (0, 21) := by
            unfold needV
            rw [if_pos h0, if_neg hst]
          rw [hn]
          repeat' (first | (refine WO.opE (by intro; simp (disch := omega) only [go_sem, zeros, Zz.look, List.append_assoc, List.length_append, ov_one0, fov4, Nat.reduceAdd, Nat.reduceMul, Nat.reduceSub, Nat.reduceLeDiff, Nat.reduceEqDiff, Int.reduceNeg, Int.reduceAdd, Int.reduceToNat, reduceIte, reduceCtorEq, fillP, over5]; rfl) (by simp only [pt8, pt0, pt1, pt2, pt3, pt4, pt5, pt6, pt7]; rfl) ?_) | (refine WO.specE rfl rfl (s47 hq hmax hiv himax hv hw (by omega)) (by simp only [pt8, pt0, pt1, pt2, pt3, pt4, pt5, pt6, pt7]; rfl) ?_) | (refine WC.seq ?_) | (refine WC.region ?_) | (refine WO.nil ?_) | (simp only [fl1, fl2, fl3, fl4, fl5, fl6, fl7, fl8, fl9, fl10, Nat.reduceBEq]) | (refine WC.ret ?_) | (refine WC.em2 rfl (fun hp => ?_) (fun hp => ?_) <;> try (exfalso; first | omega | contradiction)))
          exact ⟨_, rfl, rfl⟩
      · exact h.elim
  · have hn : needV ps sup tol ids warm = (0, setE ps sup tol ids warm) := if_neg h0
    rw [hn]
    simp only [if_neg h0] at h38
    generalize setE ps sup tol ids warm = e at *
    refine WF.fnE rfl (fn_of Tryd.func19 cir19) (by show 3 ≤ 64; decide) ?_
    unfold ir19
    simp only [padTo, List.replicate, List.nil_append, List.append_nil, List.cons_append]
    repeat' (first | (refine WO.opE (by intro; simp (disch := omega) only [go_sem, zeros, Zz.look, List.append_assoc, List.length_append, ov_one0, fov4, Nat.reduceAdd, Nat.reduceMul, Nat.reduceSub, Nat.reduceLeDiff, Nat.reduceEqDiff, Int.reduceNeg, Int.reduceAdd, Int.reduceToNat, reduceIte, reduceCtorEq, over5]; rfl) (by simp only [pt8, pt0, pt1, pt2, pt3, pt4, pt5, pt6, pt7]; rfl) ?_) | (refine WO.opN (by intro; simp (disch := omega) only [go_sem, zeros, Zz.look, List.append_assoc, List.length_append, ov_one0, fov4, Nat.reduceAdd, Nat.reduceMul, Nat.reduceSub, Nat.reduceLeDiff, Nat.reduceEqDiff, Int.reduceNeg, Int.reduceAdd, Int.reduceToNat, reduceIte, reduceCtorEq, over5]; rfl) ?_) | (refine WO.specE rfl rfl (h38 _) (by simp only [pt8, pt0, pt1, pt2, pt3, pt4, pt5, pt6, pt7]; rfl) ?_) | (refine WC.seq ?_) | (refine WC.region ?_) | (refine WO.nil ?_) | (simp only [fl1, fl2, fl3, fl4, fl5, fl6, fl7, fl8, fl9, fl10, Nat.reduceBEq]) | (refine WC.ret ?_) | (refine WC.em2 rfl (fun hp => ?_) (fun hp => ?_) <;> try (exfalso; first | omega | contradiction)))
    exact ⟨_, rfl, rfl⟩
theorem s19 {pv iv iv' : AV} {ps : List Pipe} {ids : List Int} {sup tol warm : Int} (hq : PpL pv ps) (hmax : ps.length < 9223372036854775807) (hiv : IntS iv ids) (himax : ids.length < 9223372036854775807) {m : Mem} (h : Zz.byVal m.heap iv' = some iv) :
    borrowX E16 19 [.agg [pv, .int .i64 sup, .int .i64 tol], iv', .int .i64 warm] m = some (.tuple [.int .i64 (needV ps sup tol ids warm).1, .int .i64 (needV ps sup tol ids warm).2], m) :=
  borrowX_of (byVals_cons (byO hq) (byVals_cons h (byVals_cons rfl rfl))) ((f19 hq hmax hiv himax).mono fun y m' h => by rw [h]; rfl)

noncomputable def E17 : Env := E16.put 19 (borrowX E16 19)
theorem E17_ok : EnvOk Tryd.prog E17 := Env.put_ok E16_ok (borrowX_ok E16_ok (callable Tryd.func19 (by kernel_rfl)))

/-! ### Range -/
def idsOf (ps : List Pipe) : List Int := ps.map (·.id)
def rangeOk (ps : List Pipe) (sup tol cold hot : Int) : Prop := VO ps sup tol ∧ (-100 ≤ cold ∧ cold ≤ 100) ∧ (-100 ≤ hot ∧ hot ≤ 100) ∧ cold ≤ hot
instance (ps : List Pipe) (sup tol cold hot : Int) : Decidable (rangeOk ps sup tol cold hot) := by unfold rangeOk; infer_instance
theorem f16 {pv : AV} {ps : List Pipe} {sup tol id cold hot : Int} (hq : PpL pv ps) (hmax : ps.length < 9223372036854775807) :
    WF E8 (.func 16 [] []) [.agg [pv, .int .i64 sup, .int .i64 tol], .int .i64 id, .int .i64 cold, .int .i64 hot] ⟨[], []⟩ fun y m' => y =
      if rangeOk ps sup tol cold hot then if pos ps id < ps.length then .tuple [.agg [.int .i64 (shiftOf (pipeOf ps id) (lacks ps sup (idsOf ps)) cold), .int .i64 (shiftOf (pipeOf ps id) (lacks ps sup [id]) hot)], .int .i64 0] else .tuple [.agg [.int .i64 0, .int .i64 0], .int .i64 4] else .tuple [.agg [.int .i64 0, .int .i64 0], .int .i64 1] := by
  have hlen := hq.len
  by_cases hok : rangeOk ps sup tol cold hot
  · obtain ⟨hv, hc, hh, hch⟩ := hok
    rw [if_pos ⟨hv, hc, hh, hch⟩]
    by_cases hp0 : pos ps id < ps.length
    · rw [if_pos hp0]
      have h120 := hv.2.1
      refine WF.fnE rfl (fn_of Tryd.func16 cir16) (by show 4 ≤ 70; decide) ?_
      unfold ir16
      simp only [padTo, List.replicate, List.nil_append, List.append_nil, List.cons_append]
      repeat' (first | (refine WO.yes rfl ?_) | (refine WO.opE (by intro; simp (disch := omega) only [go_sem, zeros, Zz.look, List.append_assoc, List.length_append, ov_one0, fov4, Nat.reduceAdd, Nat.reduceMul, Nat.reduceSub, Nat.reduceLeDiff, Nat.reduceEqDiff, Int.reduceNeg, Int.reduceAdd, Int.reduceToNat, reduceIte, reduceCtorEq, Pipe.cells, over10]; rfl) (by simp only [pt8, pt0, pt1, pt2, pt3, pt4, pt5, pt6, pt7]; rfl) ?_) | (refine WO.opN (by intro; simp (disch := omega) only [go_sem, zeros, Zz.look, List.append_assoc, List.length_append, ov_one0, fov4, Nat.reduceAdd, Nat.reduceMul, Nat.reduceSub, Nat.reduceLeDiff, Nat.reduceEqDiff, Int.reduceNeg, Int.reduceAdd, Int.reduceToNat, reduceIte, reduceCtorEq, Pipe.cells, over10]; rfl) ?_) | (refine WO.opE (by intro; exact ev_lenS (by simp only [go_sem]; first | rfl | assumption)) (by simp only [pt8, pt0, pt1, pt2, pt3, pt4, pt5, pt6, pt7]; rfl) ?_) | (refine WO.specE rfl rfl (s14 hq hmax) (by simp only [pt8, pt0, pt1, pt2, pt3, pt4, pt5, pt6, pt7]; rfl) ?_) | (refine WO.specE rfl rfl (s45) (by simp only [pt8, pt0, pt1, pt2, pt3, pt4, pt5, pt6, pt7]; rfl) ?_) | (refine WO.specE rfl rfl (s43 hq hmax) (by simp only [pt8, pt0, pt1, pt2, pt3, pt4, pt5, pt6, pt7]; rfl) ?_) | (refine WC.seq ?_) | (refine WC.region ?_) | (refine WO.nil ?_) | (simp only [fl1, fl2, fl3, fl4, fl5, fl6, fl7, fl8, fl9, fl10, Nat.reduceBEq]) | (refine WC.skip ?_) | (refine WC.block ?_) | (refine WO.em2 rfl (by intro hp; simp only [hp, decide_true]; rfl) (by intro hp; simp only [hp, decide_false]; rfl) (fun hp => ?_) (fun hp => ?_) <;> try (exfalso; first | omega | contradiction)) | (refine WC.em2 rfl (fun hp => ?_) (fun hp => ?_) <;> try (exfalso; first | omega | contradiction)))
      refine WC.loopI (fun m s => ∃ T H i v q, s = ⟨T, H, []⟩ ∧ T.length = 70 ∧ gt T 1 = .int .i64 id ∧ gt T 2 = .int .i64 cold ∧ gt T 3 = .int .i64 hot ∧ gt T 4 = .pref 0 0 0 ∧ gt T 8 = .pref 1 0 0 ∧ gt T 10 = .pref 2 0 0 ∧ gt T 12 = v ∧ gt T 44 = pv ∧ gt T 45 = .int .i64 (ps.length : Nat) ∧ gt T 46 = .int .i64 (i : Nat) ∧ m + i = ps.length ∧ (Zz.look H 0 0 = some [pv, .int .i64 sup, .int .i64 tol] ∧ Zz.look H 1 0 = some [.int .i64 0, .int .i64 0] ∧ Zz.look H 2 0 = some (pipeOf ps id).cells) ∧ GS 1 H v q (((idsOf ps).take i).map (.int .i64)) ∧ 3 ≤ q) ?_ ps.length _ ⟨_, _, 0, _, 3, rfl, rfl, rfl, rfl, rfl, rfl, rfl, rfl, rfl, rfl, rfl, rfl, by omega, ⟨rfl, rfl, rfl⟩, .inl ⟨rfl, rfl⟩, by omega⟩
      rintro m _ ⟨T, H, i, v, q, rfl, hT, g1, g2, g3, g4, g8, g10, g12, g44, g45, g46, hm, ⟨k0, k1, k2⟩, hg, hq3⟩
      obtain ⟨f, rfl⟩ := ex70 hT
      clear hT
      replace g1 : f 1 = .int .i64 id := g1
      replace g2 : f 2 = .int .i64 cold := g2
      replace g3 : f 3 = .int .i64 hot := g3
      replace g4 : f 4 = .pref 0 0 0 := g4
      replace g8 : f 8 = .pref 1 0 0 := g8
      replace g10 : f 10 = .pref 2 0 0 := g10
      replace g12 : f 12 = v := g12
      replace g44 : f 44 = pv := g44
      replace g45 : f 45 = .int .i64 (ps.length : Nat) := g45
      replace g46 : f 46 = .int .i64 (i : Nat) := g46
      simp only [g1, g2, g3, g4, g8, g10, g12, g44, g45, g46]
      have l0 := look_lt k2
      by_cases hin : i < ps.length
      · have hid : (idsOf ps).getD i 0 = (nth ps i).id := by simp [idsOf, nth, List.getD_eq_getElem?_getD, hin]
        obtain ⟨v', q', H1, e1, a1, a2, a3, a4⟩ := (hg.more [some ⟨0, (nth ps i).cells⟩, some ⟨0, [.int .i64 (nth ps i).id]⟩]).append (L := []) (bytes := 8) (n := 1) (cap := some 1) (id := H.length + 1) (lk1 rfl) rfl Nat.one_pos Nat.one_pos ⟨by rw [Nat.div_one]; simp; omega, by rw [Nat.div_one]; simp; omega⟩
        have hk : ∀ j, j < H.length → j ≠ q → H1[j]? = H[j]? := fun j h1 h2 => by rw [a4 j (by simp; omega) h2, List.getElem?_append_left h1]
        have t1 : ((idsOf ps).take i).map (AV.int .i64) ++ [.int .i64 (nth ps i).id] = ((idsOf ps).take (i + 1)).map (.int .i64) := by
          rw [List.take_add_one, List.map_append, ← hid, List.getD_eq_getElem?_getD, List.getElem?_eq_getElem (by simpa [idsOf] using hin)]
          rfl
        rw [t1] at a1
        repeat' (first | (refine WO.opE (by intro; simp (disch := omega) only [go_sem, zeros, List.append_assoc, List.length_append, Nat.reduceAdd, Nat.reduceMul, Nat.reduceSub, Nat.reduceLeDiff, Nat.reduceEqDiff, Int.reduceNeg, Int.reduceAdd, Int.reduceToNat, reduceIte, reduceCtorEq, hq.at, cut10, Pipe.cells, over10, lk0, lk1, st0, st1, k0, k1, k2, look_left]; rfl) (by simp only [pt8, pt0, pt1, pt2, pt3, pt4, pt5, pt6, pt7]; rfl) ?_) | (refine WO.opN (by intro; simp (disch := omega) only [go_sem, zeros, List.append_assoc, List.length_append, Nat.reduceAdd, Nat.reduceMul, Nat.reduceSub, Nat.reduceLeDiff, Nat.reduceEqDiff, Int.reduceNeg, Int.reduceAdd, Int.reduceToNat, reduceIte, reduceCtorEq, hq.at, cut10, Pipe.cells, over10, lk0, lk1, st0, st1, k0, k1, k2, look_left]; rfl) ?_) | (refine WO.opE (by intro; rw [ev_append]; exact e1) (by simp only [pt8, pt0, pt1, pt2, pt3, pt4, pt5, pt6, pt7]; rfl) ?_) | (refine WC.seq ?_) | (refine WC.region ?_) | (refine WO.nil ?_) | (simp only [fl1, fl2, fl3, fl4, fl5, fl6, fl7, fl8, fl9, fl10, Nat.reduceBEq]) | (refine WC.skip ?_) | (refine WC.block ?_) | (refine WC.em2 rfl (fun hp => ?_) (fun hp => ?_) <;> try (exfalso; first | omega | contradiction)))
        refine ⟨m - 1, by omega, _, _, i + 1, v', q', rfl, rfl, rfl, rfl, rfl, rfl, rfl, rfl, rfl, rfl, rfl, rfl, by omega, ⟨?_, ?_, ?_⟩, a1, ?_⟩
        · rw [look_of_get (hk 0 (by omega) (by omega))]; exact k0
        · rw [look_of_get (hk 1 (by omega) (by omega))]; exact k1
        · rw [look_of_get (hk 2 (by omega) (by omega))]; exact k2
        · rcases a2 with rfl | rfl
          · exact hq3
          · simp; omega
      · have hi' : i = ps.length := by omega
        subst hi'
        have hil : (idsOf ps).length = ps.length := by simp [idsOf]
        have etk : (idsOf ps).take ps.length = idsOf ps := by rw [← hil, List.take_length]
        rw [etk] at hg
        obtain ⟨g, n, rfl, d1, d2, d3⟩ := hg.ref (by intro e; rw [List.map_eq_nil_iff] at e; rw [e] at hil; simp at hil; omega)
        have hn : n = (idsOf ps).length := by simpa using d1.symm
        repeat' (first | (refine WO.opE (by intro; simp (disch := omega) only [go_sem, zeros, List.append_assoc, List.length_append, Nat.reduceAdd, Nat.reduceMul, Nat.reduceSub, Nat.reduceLeDiff, Nat.reduceEqDiff, Int.reduceNeg, Int.reduceAdd, Int.reduceToNat, reduceIte, reduceCtorEq, hq.at, cut10, Pipe.cells, over10, lk0, lk1, st0, st1, k0, k1, k2, look_left]; rfl) (by simp only [pt8, pt0, pt1, pt2, pt3, pt4, pt5, pt6, pt7]; rfl) ?_) | (refine WC.seq ?_) | (refine WC.region ?_) | (refine WO.nil ?_) | (simp only [fl1, fl2, fl3, fl4, fl5, fl6, fl7, fl8, fl9, fl10, Nat.reduceBEq]) | (refine WC.drawT ?_) | (refine WT.free rfl (by intro; simp (disch := omega) only [go_sem, zeros, List.append_assoc, List.length_append, Nat.reduceAdd, Nat.reduceMul, Nat.reduceSub, Nat.reduceLeDiff, Nat.reduceEqDiff, Int.reduceNeg, Int.reduceAdd, Int.reduceToNat, reduceIte, reduceCtorEq, hq.at, cut10, Pipe.cells, over10, lk0, lk1, st0, st1, k0, k1, k2, look_left]; rfl) rfl (by simp only [pt8, pt0, pt1, pt2, pt3, pt4, pt5, pt6, pt7]; rfl) ?_) | (refine WT.big rfl rfl (by intro; simp (disch := omega) only [go_sem, zeros, List.append_assoc, List.length_append, Nat.reduceAdd, Nat.reduceMul, Nat.reduceSub, Nat.reduceLeDiff, Nat.reduceEqDiff, Int.reduceNeg, Int.reduceAdd, Int.reduceToNat, reduceIte, reduceCtorEq, hq.at, cut10, Pipe.cells, over10, lk0, lk1, st0, st1, k0, k1, k2, look_left]; rfl) (by simp (disch := omega) only [go_sem, zeros, List.append_assoc, List.length_append, Nat.reduceAdd, Nat.reduceMul, Nat.reduceSub, Nat.reduceLeDiff, Nat.reduceEqDiff, Int.reduceNeg, Int.reduceAdd, Int.reduceToNat, reduceIte, reduceCtorEq, hq.at, cut10, Pipe.cells, over10, lk0, lk1, st0, st1, k0, k1, k2, look_left, touch]; rfl) (by first | exact .inl rfl | exact .inr (apart_nil _) | (right; apply apart_mk; simp only [apartL, List.nil_append, List.cons_append, List.getElem?_cons_succ, List.getElem?_cons_zero, Tch.free, and_true, true_and]; first | done | omega)) (by simp only [pt8, pt0, pt1, pt2, pt3, pt4, pt5, pt6, pt7]; rfl) ?_) | (refine WC.exit ?_) | (refine WC.em2 rfl (fun hp => ?_) (fun hp => ?_) <;> try (exfalso; first | omega | contradiction)))
        have hb1 := lacks_bnd (ids := idsOf ps) hv (by omega)
        have hb2 := lacks_bnd (ids := [id]) hv (by simp)
        have hp44 := (hv.at id).2.2
        have hne : q ≠ 0 ∧ q ≠ 1 ∧ q ≠ 2 := by omega
        simp only [List.nil_append, List.cons_append]
        refine WT.callG [q] rfl rfl (apart_all (by
          intro j hj
          obtain rfl : j = q := by simpa using hj
          simp only [apartL, List.getElem?_cons_succ, List.getElem?_cons_zero, Tch.free, and_true]
          omega)) (fun V hVl hVj => (f46 (H0 := V) (iv := .sref q g 0 1 n none) (ids := idsOf ps) hq hmax (fun X => rd_sref (by
            have h1 := hVj q (by simp)
            rw [List.getElem?_append_left d3] at h1
            rw [look_left (by rw [hVl]; simp; omega), look_of_get h1]
            exact d2) hn) hv (by omega)).mono fun y m' h => ⟨h.1, h.2.1, h.2.2⟩) (by simp only [pt8, pt0, pt1, pt2, pt3, pt4, pt5, pt6, pt7]; rfl) (fun R => ?_)
        simp only [List.nil_append, List.cons_append]
        have hcut : cut ((idsOf ps).map (AV.int .i64)) 0 (n * 1) = some ((idsOf ps).map (AV.int .i64)) := by
          unfold Zz.cut
          rw [if_pos (by rw [hn]; simp), List.drop_zero]
          exact congrArg some (List.take_of_length_le (by rw [hn]; simp))
        refine WT.specG [q] rfl rfl (apart_all (by
          intro j hj
          obtain rfl : j = q := by simpa using hj
          simp only [apartL, List.nil_append, List.cons_append, List.getElem?_cons_succ, List.getElem?_cons_zero, Tch.free, and_true]
          omega)) (fun V hVl hVj => s44x (p := pipeOf ps id) (pv := pv) (iv := .sval false n ((idsOf ps).map (AV.int .i64))) hp44 hc (show 0 ≤ lacks ps sup (idsOf ps) ∧ lacks ps sup (idsOf ps) ≤ 1000000000 by omega) rfl (by5 (hq.byVal _) (by
            have h1 := hVj q (by simp)
            rw [List.append_assoc, List.getElem?_append_left d3] at h1
            show Zz.byC V (.sref q g 0 1 n none) = _
            simp only [Zz.byC, look_of_get h1, d2, hcut, flat_ints, if_true]
            rfl) (by obtain ⟨_, ⟨rfl, _⟩ | ⟨f, rfl⟩⟩ := hq <;> rfl) rfl)) (by simp only [pt8, pt0, pt1, pt2, pt3, pt4, pt5, pt6, pt7]; rfl) ?_
        have hk2 : ∀ V : Hp, V.length = (H ++ [(some ⟨0, [.int .i64 id]⟩ : Option Blk)] ++ R).length → (∀ j ∈ [H.length], V[j]? = (H ++ [(some ⟨0, [.int .i64 id]⟩ : Option Blk)] ++ R)[j]?) → Zz.look V H.length 0 = some ([id].map (AV.int .i64)) := fun V hVl hVj => by
          have h1 := hVj H.length (by simp)
          rw [List.append_assoc, List.getElem?_append_right (Nat.le_refl _)] at h1
          simp only [Nat.sub_self] at h1
          exact look_eq_iff.2 h1
        simp only [List.nil_append, List.cons_append]
        refine WT.callG [H.length] rfl rfl (apart_all (by
          intro j hj
          obtain rfl : j = H.length := by simpa using hj
          simp only [apartL, List.nil_append, List.cons_append, List.getElem?_cons_succ, List.getElem?_cons_zero, Tch.free, and_true]
          omega)) (fun V hVl hVj => (f46 (H0 := V) (iv := .sref H.length 0 0 1 1 (some 1)) (ids := [id]) hq hmax (fun X => rd_sref (by
            rw [look_left (by rw [hVl]; simp)]
            exact hk2 V hVl hVj) rfl) hv (by simp)).mono fun y m' h => ⟨h.1, h.2.1, h.2.2⟩) (by simp only [pt8, pt0, pt1, pt2, pt3, pt4, pt5, pt6, pt7]; rfl) (fun R2 => ?_)
        simp only [List.nil_append, List.cons_append]
        refine WT.specG [H.length] rfl rfl (apart_all (fun j hj => trivial)) (fun V hVl hVj => s44x (p := pipeOf ps id) (pv := pv) (iv := .sval true 1 ([id].map (AV.int .i64))) hp44 hh (show 0 ≤ lacks ps sup [id] ∧ lacks ps sup [id] ≤ 1000000000 by omega) rfl (by5 (hq.byVal _) (by
            have h1 := hVj H.length (by simp)
            rw [List.append_assoc, List.append_assoc, List.getElem?_append_right (Nat.le_refl _)] at h1
            simp only [Nat.sub_self] at h1
            have h2 : Zz.look V H.length 0 = some [.int .i64 id] := look_eq_iff.2 h1
            show Zz.byC V (.sref H.length 0 0 1 1 (some 1)) = _
            simp only [Zz.byC, h2]
            rfl) (by obtain ⟨_, ⟨rfl, _⟩ | ⟨f, rfl⟩⟩ := hq <;> rfl) rfl)) (by simp only [pt8, pt0, pt1, pt2, pt3, pt4, pt5, pt6, pt7]; rfl) ?_
        repeat' (first | (refine WT.nil ?_) | (refine WT.free rfl (by intro; simp (disch := omega) only [go_sem, zeros, List.append_assoc, List.length_append, Nat.reduceAdd, Nat.reduceMul, Nat.reduceSub, Nat.reduceLeDiff, Nat.reduceEqDiff, Int.reduceNeg, Int.reduceAdd, Int.reduceToNat, reduceIte, reduceCtorEq, k0, k1, k2, look_left]; rfl) rfl (by simp only [pt8, pt0, pt1, pt2, pt3, pt4, pt5, pt6, pt7]; rfl) ?_) | (refine WT.bigN rfl rfl (by intro; simp (disch := omega) only [go_sem, zeros, List.append_assoc, List.length_append, Nat.reduceAdd, Nat.reduceMul, Nat.reduceSub, Nat.reduceLeDiff, Nat.reduceEqDiff, Int.reduceNeg, Int.reduceAdd, Int.reduceToNat, reduceIte, reduceCtorEq, k0, k1, k2, look_left]; rfl) (by simp (disch := omega) only [go_sem, zeros, List.append_assoc, List.length_append, Nat.reduceAdd, Nat.reduceMul, Nat.reduceSub, Nat.reduceLeDiff, Nat.reduceEqDiff, Int.reduceNeg, Int.reduceAdd, Int.reduceToNat, reduceIte, reduceCtorEq, k0, k1, k2, look_left, touch]; rfl) (by first | exact .inl rfl | exact .inr (apart_nil _) | (right; apply apart_mk; simp only [apartL, List.nil_append, List.cons_append, List.getElem?_cons_succ, List.getElem?_cons_zero, Tch.free, and_true, true_and]; first | done | omega)) ?_) | (refine WC.ret ?_))
        refine ⟨_, by simp only [evRes, gt8, gt0, gt1, gt2, gt3, gt4, gt5, gt6, gt7, look_set (show 1 < (H ++ some ⟨0, [.int .i64 id]⟩ :: (R ++ R2)).length by simp; omega), Option.bind_some]; rfl, rfl⟩
    · rw [if_neg hp0]
      refine WF.fnE rfl (fn_of Tryd.func16 cir16) (by show 4 ≤ 70; decide) ?_
      unfold ir16
      simp only [padTo, List.replicate, List.nil_append, List.append_nil, List.cons_append]
      repeat' (first | (refine WO.yes rfl ?_) | (refine WO.opE (by intro; simp (disch := omega) only [go_sem, zeros, Zz.look, List.append_assoc, List.length_append, ov_one0, fov4, Nat.reduceAdd, Nat.reduceMul, Nat.reduceSub, Nat.reduceLeDiff, Nat.reduceEqDiff, Int.reduceNeg, Int.reduceAdd, Int.reduceToNat, reduceIte, reduceCtorEq, Pipe.cells, over10]; rfl) (by simp only [pt8, pt0, pt1, pt2, pt3, pt4, pt5, pt6, pt7]; rfl) ?_) | (refine WO.opN (by intro; simp (disch := omega) only [go_sem, zeros, Zz.look, List.append_assoc, List.length_append, ov_one0, fov4, Nat.reduceAdd, Nat.reduceMul, Nat.reduceSub, Nat.reduceLeDiff, Nat.reduceEqDiff, Int.reduceNeg, Int.reduceAdd, Int.reduceToNat, reduceIte, reduceCtorEq, Pipe.cells, over10]; rfl) ?_) | (refine WO.specE rfl rfl (s14 hq hmax) (by simp only [pt8, pt0, pt1, pt2, pt3, pt4, pt5, pt6, pt7]; rfl) ?_) | (refine WO.specE rfl rfl (s45) (by simp only [pt8, pt0, pt1, pt2, pt3, pt4, pt5, pt6, pt7]; rfl) ?_) | (refine WO.specE rfl rfl (s43 hq hmax) (by simp only [pt8, pt0, pt1, pt2, pt3, pt4, pt5, pt6, pt7]; rfl) ?_) | (refine WC.seq ?_) | (refine WC.region ?_) | (refine WO.nil ?_) | (simp only [fl1, fl2, fl3, fl4, fl5, fl6, fl7, fl8, fl9, fl10, Nat.reduceBEq]) | (refine WC.skip ?_) | (refine WC.ret ?_) | (refine WO.em2 rfl (by intro hp; simp only [hp, decide_true]; rfl) (by intro hp; simp only [hp, decide_false]; rfl) (fun hp => ?_) (fun hp => ?_) <;> try (exfalso; first | omega | contradiction)) | (refine WC.em2 rfl (fun hp => ?_) (fun hp => ?_) <;> try (exfalso; first | omega | contradiction)))
      exact ⟨_, rfl, rfl⟩
  · rw [if_neg hok]
    have hok2 : ¬ (VO ps sup tol ∧ (-100 ≤ cold ∧ cold ≤ 100) ∧ (-100 ≤ hot ∧ hot ≤ 100) ∧ cold ≤ hot) := hok
    refine WF.fnE rfl (fn_of Tryd.func16 cir16) (by show 4 ≤ 70; decide) ?_
    unfold ir16
    simp only [padTo, List.replicate, List.nil_append, List.append_nil, List.cons_append]
    repeat' (first | (refine WO.yes rfl ?_) | (refine WO.noE rfl (by simp only [pt8, pt0, pt1, pt2, pt3, pt4, pt5, pt6, pt7]; rfl) ?_) | (refine WO.opE (by intro; simp (disch := omega) only [go_sem, zeros, Zz.look, List.append_assoc, List.length_append, ov_one0, fov4, Nat.reduceAdd, Nat.reduceMul, Nat.reduceSub, Nat.reduceLeDiff, Nat.reduceEqDiff, Int.reduceNeg, Int.reduceAdd, Int.reduceToNat, reduceIte, reduceCtorEq]; rfl) (by simp only [pt8, pt0, pt1, pt2, pt3, pt4, pt5, pt6, pt7]; rfl) ?_) | (refine WO.opN (by intro; simp (disch := omega) only [go_sem, zeros, Zz.look, List.append_assoc, List.length_append, ov_one0, fov4, Nat.reduceAdd, Nat.reduceMul, Nat.reduceSub, Nat.reduceLeDiff, Nat.reduceEqDiff, Int.reduceNeg, Int.reduceAdd, Int.reduceToNat, reduceIte, reduceCtorEq]; rfl) ?_) | (refine WO.specE rfl rfl (s14 hq hmax) (by simp only [pt8, pt0, pt1, pt2, pt3, pt4, pt5, pt6, pt7]; rfl) ?_) | (refine WO.specE rfl rfl (s45) (by simp only [pt8, pt0, pt1, pt2, pt3, pt4, pt5, pt6, pt7]; rfl) ?_) | (refine WC.seq ?_) | (refine WC.region ?_) | (refine WO.nil ?_) | (simp only [fl1, fl2, fl3, fl4, fl5, fl6, fl7, fl8, fl9, fl10, Nat.reduceBEq]) | (refine WC.yes rfl ?_) | (refine WC.skip ?_) | (refine WC.ret ?_) | (refine WO.em2 rfl (by intro hp; simp only [hp, decide_true]; rfl) (by intro hp; simp only [hp, decide_false]; rfl) (fun hp => ?_) (fun hp => ?_) <;> try (exfalso; first | omega | contradiction)) | (refine WC.em2 rfl (fun hp => ?_) (fun hp => ?_) <;> try (exfalso; first | omega | contradiction)))
    all_goals first
      | exact ⟨_, rfl, rfl⟩
      | exact absurd ⟨Decidable.of_not_not ‹¬¬VO ps sup tol›, by omega, by omega, by omega⟩ hok
def rangeV (ps : List Pipe) (sup tol id cold hot : Int) : AV := if rangeOk ps sup tol cold hot then if pos ps id < ps.length then .tuple [.agg [.int .i64 (shiftOf (pipeOf ps id) (lacks ps sup (idsOf ps)) cold), .int .i64 (shiftOf (pipeOf ps id) (lacks ps sup [id]) hot)], .int .i64 0] else .tuple [.agg [.int .i64 0, .int .i64 0], .int .i64 4] else .tuple [.agg [.int .i64 0, .int .i64 0], .int .i64 1]
theorem s16 {pv : AV} {ps : List Pipe} {sup tol id cold hot : Int} (hq : PpL pv ps) (hmax : ps.length < 9223372036854775807) {m : Mem} :
    borrowE E8 16 [.agg [pv, .int .i64 sup, .int .i64 tol], .int .i64 id, .int .i64 cold, .int .i64 hot] m = some (rangeV ps sup tol id cold hot, m) :=
  borrowE_of (pures_cons (pure3 hq.pureC) (pures_cons rfl (pures_cons rfl (pures_cons rfl rfl)))) ((f16 hq hmax).mono fun y m' h => by
    rw [h]
    unfold rangeV
    split
    · split <;> rfl
    · rfl)

noncomputable def E18 : Env := E17.put 16 (borrowE E8 16)
theorem E18_ok : EnvOk Tryd.prog E18 := Env.put_ok E17_ok (borrowE_ok E8_ok (callable Tryd.func16 (by kernel_rfl)))
end Go.Proofs.YtjbdefmhjmkifaaDoor


set_option linter.unusedSimpArgs false
set_option linter.unusedVariables false
namespace Go.Proofs.YtjbdefmhjmkifaaDoor
open Go.Zz
set_option maxRecDepth 100000
set_option maxHeartbeats 1000000
/-! ### Logarithms -/
def LL (i : Nat) : Int := [1000000000, 1584962500, 2321928094, 2807354922, 3459431618, 3700439718].getD i 0
def LH (i : Nat) : Int := [1000000000, 1584962501, 2321928095, 2807354923, 3459431619, 3700439719].getD i 0
def eLo (es : List Int) : Nat → Int
  | 0 => 0
  | i + 1 => eLo es i + if es.getD i 0 < 0 then es.getD i 0 * LH i else es.getD i 0 * LL i
def eHi (es : List Int) : Nat → Int
  | 0 => 0
  | i + 1 => eHi es i + if es.getD i 0 < 0 then es.getD i 0 * LL i else es.getD i 0 * LH i
theorem cases6 {i : Nat} (h : i < 6) : i = 0 ∨ i = 1 ∨ i = 2 ∨ i = 3 ∨ i = 4 ∨ i = 5 := by omega
theorem LL_bnd {i : Nat} (h : i < 6) : 0 ≤ LL i ∧ LL i ≤ LH i ∧ LH i ≤ 4000000000 := by
  rcases cases6 h with rfl | rfl | rfl | rfl | rfl | rfl <;> decide
theorem logs_at {i : Nat} (h : i < 6) : cut logsA (i * 2) 2 = some [.int .i64 (LL i), .int .i64 (LH i)] := by
  rcases cases6 h with rfl | rfl | rfl | rfl | rfl | rfl <;> rfl
def Small (es : List Int) : Prop := ∀ i, i < 6 → -1200 ≤ es.getD i 0 ∧ es.getD i 0 ≤ 1200
theorem term_bnd {e l : Int} (h1 : -1200 ≤ e) (h2 : e ≤ 1200) (h3 : 0 ≤ l) (h4 : l ≤ 4000000000) : -4800000000000 ≤ e * l ∧ e * l ≤ 4800000000000 := by
  have := mul_bnd h3 h4 (b := e) (B := 1200) h1 h2
  rw [Int.mul_comm l e] at this
  omega
theorem eLo_bnd {es : List Int} (h : Small es) : ∀ i, i ≤ 6 → -(i * 4800000000000) ≤ eLo es i ∧ eLo es i ≤ i * 4800000000000
  | 0, _ => by simp [eLo]
  | i + 1, hi => by
    have ih := eLo_bnd h i (by omega)
    obtain ⟨b1, b2⟩ := h i (by omega)
    obtain ⟨l1, l2, l3⟩ := LL_bnd (i := i) (by omega)
    have t1 := term_bnd b1 b2 l1 (by omega)
    have t2 := term_bnd b1 b2 (l := LH i) (by omega) l3
    unfold eLo
    split <;> omega
theorem eHi_bnd {es : List Int} (h : Small es) : ∀ i, i ≤ 6 → -(i * 4800000000000) ≤ eHi es i ∧ eHi es i ≤ i * 4800000000000
  | 0, _ => by simp [eHi]
  | i + 1, hi => by
    have ih := eHi_bnd h i (by omega)
    obtain ⟨b1, b2⟩ := h i (by omega)
    obtain ⟨l1, l2, l3⟩ := LL_bnd (i := i) (by omega)
    have t1 := term_bnd b1 b2 l1 (by omega)
    have t2 := term_bnd b1 b2 (l := LH i) (by omega) l3
    unfold eHi
    split <;> omega
theorem eLo_le {es : List Int} : ∀ i, i ≤ 6 → eLo es i ≤ eHi es i
  | 0, _ => by simp [eLo, eHi]
  | i + 1, hi => by
    have ih := eLo_le (es := es) i (by omega)
    obtain ⟨l1, l2, l3⟩ := LL_bnd (i := i) (by omega)
    unfold eLo eHi
    split
    · rename_i h
      have := Int.mul_le_mul_of_nonpos_left (Int.le_of_lt h) l2
      omega
    · rename_i h
      have := Int.mul_le_mul_of_nonneg_left l2 (Int.not_lt.1 h)
      omega
theorem cut12 {x0 x1 x2 x3 x4 x5 x6 x7 x8 x9 x10 x11 : AV} : cut [x0, x1, x2, x3, x4, x5, x6, x7, x8, x9, x10, x11] 0 12 = some [x0, x1, x2, x3, x4, x5, x6, x7, x8, x9, x10, x11] := by simp [cut]
theorem f81 {es : List Int} (hes : es.length = 6) (hs : Small es) : WF E18 (.func 81 [] []) [.agg (es.map (.int .i64))] ⟨[], []⟩ fun y m' => y = .agg [.int .i64 (eLo es 6), .int .i64 (eHi es 6)] := by
  have hb1 := eLo_bnd hs
  have hb2 := eHi_bnd hs
  refine WF.fnE rfl (fn_of Tryd.func81 cir81) (by show 1 ≤ 43; decide) ?_
  unfold ir81
  simp only [padTo, List.replicate, List.nil_append, List.append_nil, List.cons_append]
  repeat' (first | (refine WO.opE (by intro; simp (disch := omega) only [go_sem, zeros, Zz.look, List.append_assoc, List.length_append, ov_one0, ov_one1, ov_one2, ov_one3, ov_one4, ov_one5, ov_all2, ov_all6, Nat.reduceAdd, Nat.reduceMul, Nat.reduceSub, Nat.reduceLeDiff, Nat.reduceEqDiff, Int.reduceNeg, Int.reduceAdd, Int.reduceToNat, reduceIte, reduceCtorEq, cut12]; rfl) (by simp only [pt8, pt0, pt1, pt2, pt3, pt4, pt5, pt6, pt7]; rfl) ?_) | (refine WC.seq ?_) | (refine WC.region ?_) | (refine WO.nil ?_) | (simp only [fl1, fl2, fl3, fl4, fl5, fl6, fl7, fl8, fl9, fl10, Nat.reduceBEq]) | (refine WC.block ?_))
  refine WC.loopI (fun m s => ∃ T R i, s = ⟨T, some ⟨0, es.map (.int .i64)⟩ :: some ⟨0, [.int .i64 0, .int .i64 0]⟩ :: some ⟨0, [.int .i64 (eLo es i), .int .i64 (eHi es i)]⟩ :: R, []⟩ ∧ T.length = 43 ∧ gt T 1 = .pref 0 0 0 ∧ gt T 2 = .pref 1 0 0 ∧ gt T 3 = .pref 2 0 0 ∧ gt T 6 = .agg logsA ∧ gt T 7 = .int .i64 (i : Nat) ∧ m + i = 6) ?_ 6 _ ⟨_, [], 0, rfl, rfl, rfl, rfl, rfl, rfl, rfl, by omega⟩
  rintro m _ ⟨T, R, i, rfl, hT, g1, g2, g3, g6, g7, hm⟩
  obtain ⟨f, rfl⟩ := ex43 hT
  clear hT
  replace g1 : f 1 = .pref 0 0 0 := g1
  replace g2 : f 2 = .pref 1 0 0 := g2
  replace g3 : f 3 = .pref 2 0 0 := g3
  replace g6 : f 6 = .agg logsA := g6
  replace g7 : f 7 = .int .i64 (i : Nat) := g7
  simp only [g1, g2, g3, g6, g7]
  by_cases hin : i < 6
  · obtain ⟨c1, c2⟩ := hs i hin
    obtain ⟨l1, l2, l3⟩ := LL_bnd hin
    have t1 := term_bnd c1 c2 l1 (by omega)
    have t2 := term_bnd c1 c2 (l := LH i) (by omega) l3
    have b1 := hb1 i (by omega)
    have b2 := hb2 i (by omega)
    have hlt : i < es.length := by omega
    have hlg := logs_at hin
    by_cases hneg : es.getD i 0 < 0
    · have e1 : eLo es (i + 1) = eLo es i + es.getD i 0 * LH i := by rw [eLo, if_pos hneg]
      have e2 : eHi es (i + 1) = eHi es i + es.getD i 0 * LL i := by rw [eHi, if_pos hneg]
      repeat' (first | (refine WO.opE (by intro; simp (disch := omega) only [go_sem, zeros, Zz.look, List.append_assoc, List.length_append, ov_one0, ov_one1, ov_one2, ov_one3, ov_one4, ov_one5, ov_all2, ov_all6, Nat.reduceAdd, Nat.reduceMul, Nat.reduceSub, Nat.reduceLeDiff, Nat.reduceEqDiff, Int.reduceNeg, Int.reduceAdd, Int.reduceToNat, reduceIte, reduceCtorEq, hlg, int_at, Nat.mul_one, app_g0, app_g1, app_g2, app_g3, app_g4, app_s0, app_s1, app_s2, app_s3, app_s4]; rfl) (by simp only [pt8, pt0, pt1, pt2, pt3, pt4, pt5, pt6, pt7]; rfl) ?_) | (refine WO.opN (by intro; simp (disch := omega) only [go_sem, zeros, Zz.look, List.append_assoc, List.length_append, ov_one0, ov_one1, ov_one2, ov_one3, ov_one4, ov_one5, ov_all2, ov_all6, Nat.reduceAdd, Nat.reduceMul, Nat.reduceSub, Nat.reduceLeDiff, Nat.reduceEqDiff, Int.reduceNeg, Int.reduceAdd, Int.reduceToNat, reduceIte, reduceCtorEq, hlg, int_at, Nat.mul_one, app_g0, app_g1, app_g2, app_g3, app_g4, app_s0, app_s1, app_s2, app_s3, app_s4]; rfl) ?_) | (refine WC.seq ?_) | (refine WC.region ?_) | (refine WO.nil ?_) | (simp only [fl1, fl2, fl3, fl4, fl5, fl6, fl7, fl8, fl9, fl10, Nat.reduceBEq]) | (refine WC.calm rfl ?_) | (refine WC.skip ?_) | (refine WC.block ?_) | (refine WC.em2 rfl (fun hp => ?_) (fun hp => ?_) <;> try (exfalso; first | omega | contradiction)))
      exact ⟨m - 1, by omega, _, _, i + 1, by rw [e1, e2], rfl, rfl, rfl, rfl, rfl, rfl, by omega⟩
    · have e1 : eLo es (i + 1) = eLo es i + es.getD i 0 * LL i := by rw [eLo, if_neg hneg]
      have e2 : eHi es (i + 1) = eHi es i + es.getD i 0 * LH i := by rw [eHi, if_neg hneg]
      repeat' (first | (refine WO.opE (by intro; simp (disch := omega) only [go_sem, zeros, Zz.look, List.append_assoc, List.length_append, ov_one0, ov_one1, ov_one2, ov_one3, ov_one4, ov_one5, ov_all2, ov_all6, Nat.reduceAdd, Nat.reduceMul, Nat.reduceSub, Nat.reduceLeDiff, Nat.reduceEqDiff, Int.reduceNeg, Int.reduceAdd, Int.reduceToNat, reduceIte, reduceCtorEq, hlg, int_at, Nat.mul_one, app_g0, app_g1, app_g2, app_g3, app_g4, app_s0, app_s1, app_s2, app_s3, app_s4]; rfl) (by simp only [pt8, pt0, pt1, pt2, pt3, pt4, pt5, pt6, pt7]; rfl) ?_) | (refine WO.opN (by intro; simp (disch := omega) only [go_sem, zeros, Zz.look, List.append_assoc, List.length_append, ov_one0, ov_one1, ov_one2, ov_one3, ov_one4, ov_one5, ov_all2, ov_all6, Nat.reduceAdd, Nat.reduceMul, Nat.reduceSub, Nat.reduceLeDiff, Nat.reduceEqDiff, Int.reduceNeg, Int.reduceAdd, Int.reduceToNat, reduceIte, reduceCtorEq, hlg, int_at, Nat.mul_one, app_g0, app_g1, app_g2, app_g3, app_g4, app_s0, app_s1, app_s2, app_s3, app_s4]; rfl) ?_) | (refine WC.seq ?_) | (refine WC.region ?_) | (refine WO.nil ?_) | (simp only [fl1, fl2, fl3, fl4, fl5, fl6, fl7, fl8, fl9, fl10, Nat.reduceBEq]) | (refine WC.calm rfl ?_) | (refine WC.skip ?_) | (refine WC.block ?_) | (refine WC.em2 rfl (fun hp => ?_) (fun hp => ?_) <;> try (exfalso; first | omega | contradiction)))
      exact ⟨m - 1, by omega, _, _, i + 1, by rw [e1, e2], rfl, rfl, rfl, rfl, rfl, rfl, by omega⟩
  · have hi' : i = 6 := by omega
    subst hi'
    repeat' (first | (refine WO.opE (by intro; simp (disch := omega) only [go_sem, zeros, Zz.look, List.append_assoc, List.length_append, ov_one0, ov_one1, ov_one2, ov_one3, ov_one4, ov_one5, ov_all2, ov_all6, Nat.reduceAdd, Nat.reduceMul, Nat.reduceSub, Nat.reduceLeDiff, Nat.reduceEqDiff, Int.reduceNeg, Int.reduceAdd, Int.reduceToNat, reduceIte, reduceCtorEq]; rfl) (by simp only [pt8, pt0, pt1, pt2, pt3, pt4, pt5, pt6, pt7]; rfl) ?_) | (refine WO.opN (by intro; simp (disch := omega) only [go_sem, zeros, Zz.look, List.append_assoc, List.length_append, ov_one0, ov_one1, ov_one2, ov_one3, ov_one4, ov_one5, ov_all2, ov_all6, Nat.reduceAdd, Nat.reduceMul, Nat.reduceSub, Nat.reduceLeDiff, Nat.reduceEqDiff, Int.reduceNeg, Int.reduceAdd, Int.reduceToNat, reduceIte, reduceCtorEq]; rfl) ?_) | (refine WC.seq ?_) | (refine WC.region ?_) | (refine WO.nil ?_) | (simp only [fl1, fl2, fl3, fl4, fl5, fl6, fl7, fl8, fl9, fl10, Nat.reduceBEq]) | (refine WC.no rfl ?_) | (refine WC.exit ?_) | (refine WC.ret ?_))
    exact ⟨_, rfl, rfl⟩
end Go.Proofs.YtjbdefmhjmkifaaDoor

