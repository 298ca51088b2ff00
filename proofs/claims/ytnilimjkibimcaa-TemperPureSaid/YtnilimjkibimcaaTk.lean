import Derived.Test.YtnilimjkibimcaaTj
set_option linter.unusedSimpArgs false
set_option linter.unusedVariables false

namespace Go.Proofs.Ytnilimjkibimcaa
open Go.Zz
set_option maxRecDepth 100000
set_option maxHeartbeats 8000000
theorem tuneN_neg {rows gens : List (List Int)} {v : List Int} {k : Nat} {i : Nat} (hi : i ≤ rows.length) : tuneN rows gens (negV v) i k = -tuneN rows gens v i k := by
  unfold tuneN
  rw [← psumF_neg]
  exact psumF_congr fun t ht => by rw [img_neg (by omega), Int.neg_mul]
theorem tuneN_add {rows gens : List (List Int)} {v w : List Int} {k : Nat} {i : Nat} (hi : i ≤ rows.length) : tuneN rows gens (addV v w) i k = tuneN rows gens v i k + tuneN rows gens w i k := by
  unfold tuneN
  rw [← psumF_add]
  exact psumF_congr fun t ht => by rw [img_add (by omega), Int.add_mul]
theorem tune_len (rows gens : List (List Int)) (v : List Int) : (tuneF rows gens v).length = 6 := by simp [tuneF]
theorem tune_neg (rows gens : List (List Int)) (v : List Int) : tuneF rows gens (negV v) = negV (tuneF rows gens v) := getD_ext (by rw [neg_len (tune_len _ _ _), tune_len]) fun k hk => by
  rw [tune_len] at hk
  rw [tune_at hk, neg_at, tune_at hk, tuneN_neg (Nat.le_refl _)]
theorem tune_add (rows gens : List (List Int)) (v w : List Int) : tuneF rows gens (addV v w) = addV (tuneF rows gens v) (tuneF rows gens w) := getD_ext (by rw [add_len, tune_len]) fun k hk => by
  rw [tune_len] at hk
  rw [tune_at hk, add_at hk, tune_at hk, tune_at hk, tuneN_add (Nat.le_refl _)]
theorem m12_neg (v : List Int) : mul12 (negV v) = negV (mul12 v) := by
  unfold mul12 negV
  rw [List.map_map, List.map_map]
  exact List.map_congr_left fun x _ => Int.neg_mul _ _
theorem m12_len {v : List Int} (h : v.length = 6) : (mul12 v).length = 6 := by simp [mul12, h]
theorem m12_add {v w : List Int} : mul12 (addV v w) = addV (mul12 v) (mul12 w) := getD_ext (by rw [m12_len (add_len _ _), add_len]) fun k hk => by
  rw [m12_len (add_len _ _)] at hk
  rw [mul12_at, add_at hk, add_at hk, mul12_at, mul12_at, Int.add_mul]
theorem neg_neg (v : List Int) : negV (negV v) = v := by
  unfold negV
  rw [List.map_map]
  have : ((fun x : Int => -x) ∘ fun x => -x) = id := funext fun x => Int.neg_neg x
  rw [this, List.map_id]
theorem ok_12 {v : List Int} (h : okB 48 v) : okB 576 (mul12 v) := fun j hj => by
  have := h j hj
  rw [mul12_at]
  omega
theorem img_zer {rows : List (List Int)} {t : Nat} (ht : t < rows.length) : (imgF rows zer6).getD t 0 = 0 := by
  rw [img_at ht]
  show psumF _ 6 = 0
  exact (psumF_congr (g := fun _ => 0) fun j _ => by rw [zer_at, Int.mul_zero]).trans (psumF_zero 6)
theorem tune_img0 {rows gens : List (List Int)} {v : List Int} (h : ∀ t, t < rows.length → (imgF rows v).getD t 0 = 0) : tuneF rows gens v = zer6 := getD_ext (tune_len _ _ _) fun k hk => by
  rw [tune_len] at hk
  rw [tune_at hk, zer_at]
  unfold tuneN
  exact (psumF_congr (g := fun _ => 0) fun t ht => by rw [h t ht, Int.zero_mul]).trans (psumF_zero rows.length)
theorem err_of {rows gens : List (List Int)} {v : List Int} (h : tunOK rows gens v) (hp : okB 576 (tuneF rows gens v)) : errTu rows gens v = 0 ∧ tunP rows gens v = tuneF rows gens v := ⟨by unfold errTu; rw [if_pos h, if_pos hp], if_pos ⟨h, hp⟩⟩
theorem pure_of {rows gens : List (List Int)} {v : List Int} (h : errTu rows gens v = 0) : pureR rows gens v = decide (tuneF rows gens v = mul12 v) := by
  unfold pureR
  rw [decide_eq_decide, (err_ok h).2.2]
  exact ⟨fun h => h.2, fun h' => ⟨h, h'⟩⟩
theorem law_zer {rows gens : List (List Int)} {v : List Int} (h : errTu rows gens v = 0) : errTu rows gens zer6 = 0 ∧ pureR rows gens zer6 = true := by
  obtain ⟨h1, _, _⟩ := err_ok h
  have ht : tuneF rows gens zer6 = zer6 := tune_img0 fun t ht => img_zer ht
  have hz : okB 48 zer6 := by decide
  have he := (err_of (v := zer6) ⟨h1.1, h1.2.1, hz, h1.2.2.2⟩ (by rw [ht]; decide)).1
  exact ⟨he, by rw [pure_of he, ht]; rfl⟩
theorem law_uni {rows gens : List (List Int)} {v : List Int} (hv6 : v.length = 6) (h : errTu rows gens v = 0) (hp : pureR rows gens v = true) (ht : tempR rows v = true) : v = zer6 := by
  rw [pure_of h] at hp
  have h1 := of_decide_eq_true hp
  have h2 := of_decide_eq_true ht
  rw [tune_img0 h2.2] at h1
  exact getD_ext hv6 fun k hk => by
    have := congrArg (fun l => l.getD k 0) h1
    simp only [zer_at, mul12_at] at this
    rw [zer_at]
    omega
theorem law_neg {rows gens : List (List Int)} {v : List Int} (h : errTu rows gens v = 0) : errTu rows gens (negV v) = 0 ∧ pureR rows gens (negV v) = pureR rows gens v := by
  obtain ⟨h1, h2, _⟩ := err_ok h
  have he := (err_of (v := negV v) ⟨h1.1, h1.2.1, ok_neg h1.2.2.1, h1.2.2.2⟩ (by rw [tune_neg]; exact ok_neg h2)).1
  refine ⟨he, ?_⟩
  rw [pure_of he, pure_of h, decide_eq_decide, tune_neg, m12_neg]
  exact ⟨fun h => by rw [← neg_neg (tuneF rows gens v), h, neg_neg], fun h => by rw [h]⟩
theorem law_sum {rows gens : List (List Int)} {v w : List Int} (h : errTu rows gens v = 0) (h' : errTu rows gens w = 0) (hp : pureR rows gens v = true) (hp' : pureR rows gens w = true) (hs : okB 48 (addV v w)) : errTu rows gens (addV v w) = 0 ∧ pureR rows gens (addV v w) = true := by
  obtain ⟨h1, h2, _⟩ := err_ok h
  rw [pure_of h] at hp
  rw [pure_of h'] at hp'
  have e1 := of_decide_eq_true hp
  have e2 := of_decide_eq_true hp'
  have e3 : tuneF rows gens (addV v w) = mul12 (addV v w) := by rw [tune_add, e1, e2, m12_add]
  have he := (err_of (v := addV v w) ⟨h1.1, h1.2.1, hs, h1.2.2.2⟩ (by rw [e3]; exact ok_12 hs)).1
  exact ⟨he, by rw [pure_of he, e3]; exact decide_eq_true rfl⟩
theorem law_errI {rows gens : List (List Int)} {v : List Int} (h : errTu rows gens v = 0) : errI rows v = 0 := if_pos ⟨(err_ok h).1.1, (err_ok h).1.2.2.1⟩
theorem run13 {l gx : AV} {rows gens : List (List Int)} {v w : List Int} (hl : RwL l rows) (hmax : rows.length < 9223372036854775807) (hgx : RwL gx gens) (hgm : gens.length < 9223372036854775807) (hv6 : v.length = 6) (hw6 : w.length = 6) : WF T23 (.func 13 [] []) [.agg [l], gx, .agg (icells v), .agg (icells w)] ⟨[], []⟩ fun y m' => y = .bool true := by
  have hlc := hl.cells
  unfold AV.cells at hlc
  have hmv : (icells v).length = 6 := by rw [icells_len, hv6]
  have hcv := icells_cut hv6
  have hmw : (icells w).length = 6 := by rw [icells_len, hw6]
  have hcw := icells_cut hw6
  have c44 := fun m => s44 (m := m)
  have ca := fun m => x59 (m := m) (v := v) hl hmax hgx hgm hv6 (hl.byC _) (hgx.byVal _)
  have cb := fun m => x59 (m := m) (v := w) hl hmax hgx hgm hw6 (hl.byC _) (hgx.byVal _)
  by_cases he : errTu rows gens v = 0 ∧ errTu rows gens w = 0
  · obtain ⟨hev, hew⟩ := he
    obtain ⟨hok, _, _⟩ := err_ok hev
    obtain ⟨hokw, _, _⟩ := err_ok hew
    have co := fun m => x50 (m := m) (v := v) hl hmax hv6 (hl.byC _)
    have hz6 : zer6.length = 6 := rfl
    have cz := fun m => x59 (m := m) (v := zer6) hl hmax hgx hgm hz6 (hl.byC _) (hgx.byVal _)
    have cn := fun m => x59 (m := m) (v := negV v) hl hmax hgx hgm (neg_len hv6) (hl.byC _) (hgx.byVal _)
    have cs := fun m => x59 (m := m) (v := addV v w) hl hmax hgx hgm (add_len v w) (hl.byC _) (hgx.byVal _)
    have c62 := fun m => s62 (m := m) hv6 (ok_1000 (by decide) hok.2.2.1)
    have c63 := fun m => s63 (m := m) hv6 hw6 (ok_1000 (by decide) hok.2.2.1) (ok_1000 (by decide) hokw.2.2.1)
    have hs6 := add_len v w
    have hms : (icells (addV v w)).length = 6 := by rw [icells_len, hs6]
    have hcs := icells_cut hs6
    have hov := fun x0 x1 x2 x3 x4 x5 => icells_over6 hs6 (x0 := x0) (x1 := x1) (x2 := x2) (x3 := x3) (x4 := x4) (x5 := x5)
    have e61 := fun m => s61 (m := m) hs6
    obtain ⟨z1, z2⟩ := law_zer hev
    obtain ⟨n1, n2⟩ := law_neg hev
    have hI := law_errI hev
    have hce := cellsEq_int (r := v) (r' := zer6) (by rw [hv6]; rfl)
    rw [hv6] at hce
    have hce' : cellsEq [true, true, true, true, true, true] (icells v) [.int .i64 0, .int .i64 0, .int .i64 0, .int .i64 0, .int .i64 0, .int .i64 0] = some (decide (v = zer6)) := hce
    have hze : icells zer6 = [.int .i64 0, .int .i64 0, .int .i64 0, .int .i64 0, .int .i64 0, .int .i64 0] := rfl
    rw [hev] at ca
    rw [hew] at cb
    rw [hI] at co
    rw [z1, z2, hze] at cz
    rw [n1, n2] at cn
    cases hP : pureR rows gens v
    · rw [hP] at ca cn
      cases hO : tempR rows v
      · rw [hO] at co
        refine WF.fnE rfl (fn_of Try.func13 cir13) (by show 4 ≤ 124; decide) ?_
        unfold ir13; dsimp only [k0, kI, mV, oO, oG]
        simp only [padTo, List.replicate, List.nil_append, List.append_nil]
        repeat' (first | (refine WO.yes rfl ?_) | (refine WO.noE rfl (by simp only [pt8, pt0, pt1, pt2, pt3, pt4, pt5, pt7]; rfl) ?_) | (refine WO.opE (by intro; simp (disch := omega) only [go_sem, Zz.look, List.cons_append, List.nil_append, fillP, Nat.reduceAdd, hcv, hcw, Option.map_some, Bool.not_true, Bool.not_false]; rfl) (by simp only [pt8, pt0, pt1, pt2, pt3, pt4, pt5, pt6, pt7]; rfl) ?_) | (refine WO.opN (by intro; simp (disch := omega) only [go_sem, Zz.look, Option.bind_eq_bind, hms, hov, Option.map_some, setBlk, List.set_cons_zero, List.set_cons_succ]; rfl) ?_) | (refine WO.specE rfl rfl (c44 _) (by simp only [pt8, pt7]; rfl) ?_) | (refine WO.specE rfl rfl (ca _) (by simp only [pt8, pt4]; rfl) ?_) | (refine WO.specE rfl rfl (cb _) (by simp only [pt8, pt3]; rfl) ?_) | (refine WO.specE rfl rfl (co _) (by simp only [pt8, pt0]; rfl) ?_) | (refine WO.specE rfl rfl (cz _) (by simp only [pt8, pt7]; rfl) ?_) | (refine WT.spec rfl rfl (fun V => c62 ⟨V, []⟩) (by simp only [pt8, pt3]; rfl) ?_) | (refine WT.spec rfl rfl (fun V => cn ⟨V, []⟩) (by simp only [pt8, pt4]; rfl) ?_) | (refine WO.specE rfl rfl (c63 _) (by simp only [pt8, pt0]; rfl) ?_) | (refine WC.seq ?_) | (refine WC.region ?_) | (refine WO.nil ?_) | (simp only [fl1, fl2]) | (refine WC.drawT ?_) | (refine WT.nil ?_) | (refine WT.free rfl (by intro; simp (disch := omega) only [go_sem, Zz.look, hcv, Option.map_some]; rfl) rfl (by simp only [pt8, pt0, pt1, pt2, pt3, pt5, pt6, pt7]; rfl) ?_) | (refine WT.big rfl rfl (by intro; simp (disch := omega) only [go_sem, Zz.look, hcv, Option.map_some]; rfl) (by simp (disch := omega) only [go_sem, touch]; rfl) (by first | exact .inl rfl | exact .inr (apart_nil _) | exact .inr trivial | (right; apply apart_mk; simp only [apartL, List.nil_append, List.cons_append, List.getElem?_cons_succ, List.getElem?_cons_zero, Tch.free, and_true, true_and]; first | done | omega)) (by simp only [pt8, pt0, pt2]; rfl) ?_) | (refine WC.yes rfl ?_) | (refine WC.no rfl ?_) | (refine WC.skip ?_) | (refine WC.ret ?_))
        exact ⟨_, rfl, rfl⟩
      · rw [hO] at co
        refine WF.fnE rfl (fn_of Try.func13 cir13) (by show 4 ≤ 124; decide) ?_
        unfold ir13; dsimp only [k0, kI, mV, oO, oG]
        simp only [padTo, List.replicate, List.nil_append, List.append_nil]
        repeat' (first | (refine WO.yes rfl ?_) | (refine WO.noE rfl (by simp only [pt8, pt0, pt1, pt2, pt3, pt4, pt5, pt7]; rfl) ?_) | (refine WO.opE (by intro; simp (disch := omega) only [go_sem, Zz.look, List.cons_append, List.nil_append, fillP, Nat.reduceAdd, hcv, hcw, Option.map_some, Bool.not_true, Bool.not_false]; rfl) (by simp only [pt8, pt0, pt1, pt2, pt3, pt4, pt5, pt6, pt7]; rfl) ?_) | (refine WO.opN (by intro; simp (disch := omega) only [go_sem, Zz.look, Option.bind_eq_bind, hms, hov, Option.map_some, setBlk, List.set_cons_zero, List.set_cons_succ]; rfl) ?_) | (refine WO.specE rfl rfl (c44 _) (by simp only [pt8, pt7]; rfl) ?_) | (refine WO.specE rfl rfl (ca _) (by simp only [pt8, pt4]; rfl) ?_) | (refine WO.specE rfl rfl (cb _) (by simp only [pt8, pt3]; rfl) ?_) | (refine WO.specE rfl rfl (co _) (by simp only [pt8, pt0]; rfl) ?_) | (refine WO.specE rfl rfl (cz _) (by simp only [pt8, pt7]; rfl) ?_) | (refine WT.spec rfl rfl (fun V => c62 ⟨V, []⟩) (by simp only [pt8, pt3]; rfl) ?_) | (refine WT.spec rfl rfl (fun V => cn ⟨V, []⟩) (by simp only [pt8, pt4]; rfl) ?_) | (refine WO.specE rfl rfl (c63 _) (by simp only [pt8, pt0]; rfl) ?_) | (refine WC.seq ?_) | (refine WC.region ?_) | (refine WO.nil ?_) | (simp only [fl1, fl2]) | (refine WC.drawT ?_) | (refine WT.nil ?_) | (refine WT.free rfl (by intro; simp (disch := omega) only [go_sem, Zz.look, hcv, Option.map_some]; rfl) rfl (by simp only [pt8, pt0, pt1, pt2, pt3, pt5, pt6, pt7]; rfl) ?_) | (refine WT.big rfl rfl (by intro; simp (disch := omega) only [go_sem, Zz.look, hcv, Option.map_some]; rfl) (by simp (disch := omega) only [go_sem, touch]; rfl) (by first | exact .inl rfl | exact .inr (apart_nil _) | exact .inr trivial | (right; apply apart_mk; simp only [apartL, List.nil_append, List.cons_append, List.getElem?_cons_succ, List.getElem?_cons_zero, Tch.free, and_true, true_and]; first | done | omega)) (by simp only [pt8, pt0, pt2]; rfl) ?_) | (refine WC.yes rfl ?_) | (refine WC.no rfl ?_) | (refine WC.skip ?_) | (refine WC.ret ?_))
        exact ⟨_, rfl, rfl⟩
    · rw [hP] at ca cn
      cases hO : tempR rows v
      · rw [hO] at co
        cases hQ : pureR rows gens w
        · rw [hQ] at cb
          refine WF.fnE rfl (fn_of Try.func13 cir13) (by show 4 ≤ 124; decide) ?_
          unfold ir13; dsimp only [k0, kI, mV, oO, oG]
          simp only [padTo, List.replicate, List.nil_append, List.append_nil]
          repeat' (first | (refine WO.yes rfl ?_) | (refine WO.noE rfl (by simp only [pt8, pt0, pt1, pt2, pt3, pt4]; rfl) ?_) | (refine WO.opE (by intro; simp (disch := omega) only [go_sem, Zz.look, List.cons_append, List.nil_append, fillP, Nat.reduceAdd, hcv, hcw, Option.map_some, Bool.not_true, Bool.not_false]; rfl) (by simp only [pt8, pt0, pt1, pt2, pt3, pt4, pt5, pt6, pt7]; rfl) ?_) | (refine WO.opN (by intro; simp (disch := omega) only [go_sem, Zz.look, Option.bind_eq_bind, hms, hov, Option.map_some, setBlk, List.set_cons_zero, List.set_cons_succ]; rfl) ?_) | (refine WO.specE rfl rfl (c44 _) (by simp only [pt8, pt7]; rfl) ?_) | (refine WO.specE rfl rfl (ca _) (by simp only [pt8, pt4]; rfl) ?_) | (refine WO.specE rfl rfl (cb _) (by simp only [pt8, pt3]; rfl) ?_) | (refine WO.specE rfl rfl (co _) (by simp only [pt8, pt0]; rfl) ?_) | (refine WO.specE rfl rfl (cz _) (by simp only [pt8, pt7]; rfl) ?_) | (refine WT.spec rfl rfl (fun V => c62 ⟨V, []⟩) (by simp only [pt8, pt3]; rfl) ?_) | (refine WT.spec rfl rfl (fun V => cn ⟨V, []⟩) (by simp only [pt8, pt4]; rfl) ?_) | (refine WO.specE rfl rfl (c63 _) (by simp only [pt8, pt0]; rfl) ?_) | (refine WC.seq ?_) | (refine WC.region ?_) | (refine WO.nil ?_) | (simp only [fl1, fl2]) | (refine WC.drawT ?_) | (refine WT.nil ?_) | (refine WT.free rfl (by intro; simp (disch := omega) only [go_sem, Zz.look, hcv, Option.map_some]; rfl) rfl (by simp only [pt8, pt0, pt1, pt2, pt3, pt5, pt6, pt7]; rfl) ?_) | (refine WT.big rfl rfl (by intro; simp (disch := omega) only [go_sem, Zz.look, hcv, Option.map_some]; rfl) (by simp (disch := omega) only [go_sem, touch]; rfl) (by first | exact .inl rfl | exact .inr (apart_nil _) | exact .inr trivial | (right; apply apart_mk; simp only [apartL, List.nil_append, List.cons_append, List.getElem?_cons_succ, List.getElem?_cons_zero, Tch.free, and_true, true_and]; first | done | omega)) (by simp only [pt8, pt0, pt2]; rfl) ?_) | (refine WC.yes rfl ?_) | (refine WC.no rfl ?_) | (refine WC.skip ?_) | (refine WC.ret ?_))
          exact ⟨_, rfl, rfl⟩
        · rw [hQ] at cb
          by_cases hs : okB 48 (addV v w)
          · obtain ⟨s1, s2⟩ := law_sum hev hew hP hQ hs
            rw [decide_eq_true hs] at e61
            rw [s1, s2] at cs
            refine WF.fnE rfl (fn_of Try.func13 cir13) (by show 4 ≤ 124; decide) ?_
            unfold ir13; dsimp only [k0, kI, mV, oO, oG]
            simp only [padTo, List.replicate, List.nil_append, List.append_nil]
            repeat' (first | (refine WO.yes rfl ?_) | (refine WO.noE rfl (by simp only [pt8, pt2, pt3, pt4]; rfl) ?_) | (refine WO.opE (by intro; simp (disch := omega) only [go_sem, Zz.look, List.cons_append, List.nil_append, fillP, Nat.reduceAdd, hcv, hcw, hcs, Option.map_some, Bool.not_true]; rfl) (by simp only [pt8, pt0, pt1, pt2, pt3, pt4, pt5, pt6, pt7]; rfl) ?_) | (refine WO.opN (by intro; simp (disch := omega) only [go_sem, Zz.look, Option.bind_eq_bind, hms, hov, Option.map_some, setBlk, List.set_cons_zero, List.set_cons_succ]; rfl) ?_) | (refine WO.specE rfl rfl (c44 _) (by simp only [pt8, pt7]; rfl) ?_) | (refine WO.specE rfl rfl (ca _) (by simp only [pt8, pt4]; rfl) ?_) | (refine WO.specE rfl rfl (cb _) (by simp only [pt8, pt3]; rfl) ?_) | (refine WO.specE rfl rfl (co _) (by simp only [pt8, pt0]; rfl) ?_) | (refine WO.specE rfl rfl (cz _) (by simp only [pt8, pt7]; rfl) ?_) | (refine WT.spec rfl rfl (fun V => c62 ⟨V, []⟩) (by simp only [pt8, pt3]; rfl) ?_) | (refine WT.spec rfl rfl (fun V => cn ⟨V, []⟩) (by simp only [pt8, pt4]; rfl) ?_) | (refine WO.specE rfl rfl (c63 _) (by simp only [pt8, pt0]; rfl) ?_) | (refine WO.specE rfl rfl (e61 _) (by simp only [pt8, pt1]; rfl) ?_) | (refine WO.specE rfl rfl (cs _) (by simp only [pt8, pt1]; rfl) ?_) | (refine WC.seq ?_) | (refine WC.region ?_) | (refine WO.nil ?_) | (simp only [fl1]) | (refine WC.drawT ?_) | (refine WT.nil ?_) | (refine WT.free rfl (by intro; simp (disch := omega) only [go_sem, Zz.look, hcv, Option.map_some]; rfl) rfl (by simp only [pt8, pt0, pt1, pt2, pt3, pt5, pt6, pt7]; rfl) ?_) | (refine WT.big rfl rfl (by intro; simp (disch := omega) only [go_sem, Zz.look, hcv, Option.map_some]; rfl) (by simp (disch := omega) only [go_sem, touch]; rfl) (by first | exact .inl rfl | exact .inr (apart_nil _) | exact .inr trivial | (right; apply apart_mk; simp only [apartL, List.nil_append, List.cons_append, List.getElem?_cons_succ, List.getElem?_cons_zero, Tch.free, and_true, true_and]; first | done | omega)) (by simp only [pt8, pt0, pt2]; rfl) ?_) | (refine WC.no rfl ?_) | (refine WC.skip ?_) | (refine WC.ret ?_))
            exact ⟨_, rfl, rfl⟩
          · rw [decide_eq_false hs] at e61
            refine WF.fnE rfl (fn_of Try.func13 cir13) (by show 4 ≤ 124; decide) ?_
            unfold ir13; dsimp only [k0, kI, mV, oO, oG]
            simp only [padTo, List.replicate, List.nil_append, List.append_nil]
            repeat' (first | (refine WO.yes rfl ?_) | (refine WO.noE rfl (by simp only [pt8, pt2, pt3, pt4]; rfl) ?_) | (refine WO.opE (by intro; simp (disch := omega) only [go_sem, Zz.look, List.cons_append, List.nil_append, fillP, Nat.reduceAdd, hcv, hcw, hcs, Option.map_some, Bool.not_true, Bool.not_false]; rfl) (by simp only [pt8, pt0, pt1, pt2, pt3, pt4, pt5, pt6, pt7]; rfl) ?_) | (refine WO.opN (by intro; simp (disch := omega) only [go_sem, Zz.look, Option.bind_eq_bind, hms, hov, Option.map_some, setBlk, List.set_cons_zero, List.set_cons_succ]; rfl) ?_) | (refine WO.specE rfl rfl (c44 _) (by simp only [pt8, pt7]; rfl) ?_) | (refine WO.specE rfl rfl (ca _) (by simp only [pt8, pt4]; rfl) ?_) | (refine WO.specE rfl rfl (cb _) (by simp only [pt8, pt3]; rfl) ?_) | (refine WO.specE rfl rfl (co _) (by simp only [pt8, pt0]; rfl) ?_) | (refine WO.specE rfl rfl (cz _) (by simp only [pt8, pt7]; rfl) ?_) | (refine WT.spec rfl rfl (fun V => c62 ⟨V, []⟩) (by simp only [pt8, pt3]; rfl) ?_) | (refine WT.spec rfl rfl (fun V => cn ⟨V, []⟩) (by simp only [pt8, pt4]; rfl) ?_) | (refine WO.specE rfl rfl (c63 _) (by simp only [pt8, pt0]; rfl) ?_) | (refine WO.specE rfl rfl (e61 _) (by simp only [pt8, pt1]; rfl) ?_) | (refine WC.seq ?_) | (refine WC.region ?_) | (refine WO.nil ?_) | (simp only [fl1, fl2]) | (refine WC.drawT ?_) | (refine WT.nil ?_) | (refine WT.free rfl (by intro; simp (disch := omega) only [go_sem, Zz.look, hcv, Option.map_some]; rfl) rfl (by simp only [pt8, pt0, pt1, pt2, pt3, pt5, pt6, pt7]; rfl) ?_) | (refine WT.big rfl rfl (by intro; simp (disch := omega) only [go_sem, Zz.look, hcv, Option.map_some]; rfl) (by simp (disch := omega) only [go_sem, touch]; rfl) (by first | exact .inl rfl | exact .inr (apart_nil _) | exact .inr trivial | (right; apply apart_mk; simp only [apartL, List.nil_append, List.cons_append, List.getElem?_cons_succ, List.getElem?_cons_zero, Tch.free, and_true, true_and]; first | done | omega)) (by simp only [pt8, pt0, pt2]; rfl) ?_) | (refine WC.yes rfl ?_) | (refine WC.no rfl ?_) | (refine WC.skip ?_) | (refine WC.ret ?_))
            exact ⟨_, rfl, rfl⟩
      · rw [hO] at co
        have hu := law_uni hv6 hev hP hO
        rw [decide_eq_true hu] at hce'
        cases hQ : pureR rows gens w
        · rw [hQ] at cb
          refine WF.fnE rfl (fn_of Try.func13 cir13) (by show 4 ≤ 124; decide) ?_
          unfold ir13; dsimp only [k0, kI, mV, oO, oG]
          simp only [padTo, List.replicate, List.nil_append, List.append_nil]
          repeat' (first | (refine WO.yes rfl ?_) | (refine WO.noE rfl (by simp only [pt8, pt0, pt1, pt2]; rfl) ?_) | (refine WO.opE (by intro; simp (disch := omega) only [go_sem, Zz.look, List.cons_append, List.nil_append, fillP, Nat.reduceAdd, hcv, hcw, hce', Option.map_some, Bool.not_true, Bool.not_false]; rfl) (by simp only [pt8, pt0, pt1, pt2, pt3, pt4, pt5, pt6, pt7]; rfl) ?_) | (refine WO.opN (by intro; simp (disch := omega) only [go_sem, Zz.look, Option.bind_eq_bind, hms, hov, Option.map_some, setBlk, List.set_cons_zero, List.set_cons_succ]; rfl) ?_) | (refine WO.specE rfl rfl (c44 _) (by simp only [pt8, pt7]; rfl) ?_) | (refine WO.specE rfl rfl (ca _) (by simp only [pt8, pt4]; rfl) ?_) | (refine WO.specE rfl rfl (cb _) (by simp only [pt8, pt3]; rfl) ?_) | (refine WO.specE rfl rfl (co _) (by simp only [pt8, pt0]; rfl) ?_) | (refine WO.specE rfl rfl (cz _) (by simp only [pt8, pt7]; rfl) ?_) | (refine WT.spec rfl rfl (fun V => c62 ⟨V, []⟩) (by simp only [pt8, pt3]; rfl) ?_) | (refine WT.spec rfl rfl (fun V => cn ⟨V, []⟩) (by simp only [pt8, pt4]; rfl) ?_) | (refine WO.specE rfl rfl (c63 _) (by simp only [pt8, pt0]; rfl) ?_) | (refine WC.seq ?_) | (refine WC.region ?_) | (refine WO.nil ?_) | (simp only [fl1, fl2]) | (refine WC.drawT ?_) | (refine WT.nil ?_) | (refine WT.free rfl (by intro; simp (disch := omega) only [go_sem, Zz.look, hcv, Option.map_some]; rfl) rfl (by simp only [pt8, pt0, pt1, pt2, pt3, pt5, pt6, pt7]; rfl) ?_) | (refine WT.big rfl rfl (by intro; simp (disch := omega) only [go_sem, Zz.look, hcv, Option.map_some]; rfl) (by simp (disch := omega) only [go_sem, touch]; rfl) (by first | exact .inl rfl | exact .inr (apart_nil _) | exact .inr trivial | (right; apply apart_mk; simp only [apartL, List.nil_append, List.cons_append, List.getElem?_cons_succ, List.getElem?_cons_zero, Tch.free, and_true, true_and]; first | done | omega)) (by simp only [pt8, pt0, pt2]; rfl) ?_) | (refine WC.yes rfl ?_) | (refine WC.no rfl ?_) | (refine WC.skip ?_) | (refine WC.ret ?_))
          exact ⟨_, rfl, rfl⟩
        · rw [hQ] at cb
          by_cases hs : okB 48 (addV v w)
          · obtain ⟨s1, s2⟩ := law_sum hev hew hP hQ hs
            rw [decide_eq_true hs] at e61
            rw [s1, s2] at cs
            refine WF.fnE rfl (fn_of Try.func13 cir13) (by show 4 ≤ 124; decide) ?_
            unfold ir13; dsimp only [k0, kI, mV, oO, oG]
            simp only [padTo, List.replicate, List.nil_append, List.append_nil]
            repeat' (first | (refine WO.yes rfl ?_) | (refine WO.opE (by intro; simp (disch := omega) only [go_sem, Zz.look, List.cons_append, List.nil_append, fillP, Nat.reduceAdd, hcv, hcw, hcs, hce', Option.map_some, Bool.not_true]; rfl) (by simp only [pt8, pt0, pt1, pt2, pt3, pt4, pt5, pt6, pt7]; rfl) ?_) | (refine WO.opN (by intro; simp (disch := omega) only [go_sem, Zz.look, Option.bind_eq_bind, hms, hov, Option.map_some, setBlk, List.set_cons_zero, List.set_cons_succ]; rfl) ?_) | (refine WO.specE rfl rfl (c44 _) (by simp only [pt8, pt7]; rfl) ?_) | (refine WO.specE rfl rfl (ca _) (by simp only [pt8, pt4]; rfl) ?_) | (refine WO.specE rfl rfl (cb _) (by simp only [pt8, pt3]; rfl) ?_) | (refine WO.specE rfl rfl (co _) (by simp only [pt8, pt0]; rfl) ?_) | (refine WO.specE rfl rfl (cz _) (by simp only [pt8, pt7]; rfl) ?_) | (refine WT.spec rfl rfl (fun V => c62 ⟨V, []⟩) (by simp only [pt8, pt3]; rfl) ?_) | (refine WT.spec rfl rfl (fun V => cn ⟨V, []⟩) (by simp only [pt8, pt4]; rfl) ?_) | (refine WO.specE rfl rfl (c63 _) (by simp only [pt8, pt0]; rfl) ?_) | (refine WO.specE rfl rfl (e61 _) (by simp only [pt8, pt1]; rfl) ?_) | (refine WO.specE rfl rfl (cs _) (by simp only [pt8, pt1]; rfl) ?_) | (refine WC.seq ?_) | (refine WC.region ?_) | (refine WO.nil ?_) | (simp only [fl1]) | (refine WC.drawT ?_) | (refine WT.nil ?_) | (refine WT.free rfl (by intro; simp (disch := omega) only [go_sem, Zz.look, hcv, Option.map_some]; rfl) rfl (by simp only [pt8, pt0, pt1, pt2, pt3, pt5, pt6, pt7]; rfl) ?_) | (refine WT.big rfl rfl (by intro; simp (disch := omega) only [go_sem, Zz.look, hcv, Option.map_some]; rfl) (by simp (disch := omega) only [go_sem, touch]; rfl) (by first | exact .inl rfl | exact .inr (apart_nil _) | exact .inr trivial | (right; apply apart_mk; simp only [apartL, List.nil_append, List.cons_append, List.getElem?_cons_succ, List.getElem?_cons_zero, Tch.free, and_true, true_and]; first | done | omega)) (by simp only [pt8, pt0, pt2]; rfl) ?_) | (refine WC.no rfl ?_) | (refine WC.skip ?_) | (refine WC.ret ?_))
            exact ⟨_, rfl, rfl⟩
          · rw [decide_eq_false hs] at e61
            refine WF.fnE rfl (fn_of Try.func13 cir13) (by show 4 ≤ 124; decide) ?_
            unfold ir13; dsimp only [k0, kI, mV, oO, oG]
            simp only [padTo, List.replicate, List.nil_append, List.append_nil]
            repeat' (first | (refine WO.yes rfl ?_) | (refine WO.opE (by intro; simp (disch := omega) only [go_sem, Zz.look, List.cons_append, List.nil_append, fillP, Nat.reduceAdd, hcv, hcw, hcs, hce', Option.map_some, Bool.not_true, Bool.not_false]; rfl) (by simp only [pt8, pt0, pt1, pt2, pt3, pt4, pt5, pt6, pt7]; rfl) ?_) | (refine WO.opN (by intro; simp (disch := omega) only [go_sem, Zz.look, Option.bind_eq_bind, hms, hov, Option.map_some, setBlk, List.set_cons_zero, List.set_cons_succ]; rfl) ?_) | (refine WO.specE rfl rfl (c44 _) (by simp only [pt8, pt7]; rfl) ?_) | (refine WO.specE rfl rfl (ca _) (by simp only [pt8, pt4]; rfl) ?_) | (refine WO.specE rfl rfl (cb _) (by simp only [pt8, pt3]; rfl) ?_) | (refine WO.specE rfl rfl (co _) (by simp only [pt8, pt0]; rfl) ?_) | (refine WO.specE rfl rfl (cz _) (by simp only [pt8, pt7]; rfl) ?_) | (refine WT.spec rfl rfl (fun V => c62 ⟨V, []⟩) (by simp only [pt8, pt3]; rfl) ?_) | (refine WT.spec rfl rfl (fun V => cn ⟨V, []⟩) (by simp only [pt8, pt4]; rfl) ?_) | (refine WO.specE rfl rfl (c63 _) (by simp only [pt8, pt0]; rfl) ?_) | (refine WO.specE rfl rfl (e61 _) (by simp only [pt8, pt1]; rfl) ?_) | (refine WC.seq ?_) | (refine WC.region ?_) | (refine WO.nil ?_) | (simp only [fl1, fl2]) | (refine WC.drawT ?_) | (refine WT.nil ?_) | (refine WT.free rfl (by intro; simp (disch := omega) only [go_sem, Zz.look, hcv, Option.map_some]; rfl) rfl (by simp only [pt8, pt0, pt1, pt2, pt3, pt5, pt6, pt7]; rfl) ?_) | (refine WT.big rfl rfl (by intro; simp (disch := omega) only [go_sem, Zz.look, hcv, Option.map_some]; rfl) (by simp (disch := omega) only [go_sem, touch]; rfl) (by first | exact .inl rfl | exact .inr (apart_nil _) | exact .inr trivial | (right; apply apart_mk; simp only [apartL, List.nil_append, List.cons_append, List.getElem?_cons_succ, List.getElem?_cons_zero, Tch.free, and_true, true_and]; first | done | omega)) (by simp only [pt8, pt0, pt2]; rfl) ?_) | (refine WC.yes rfl ?_) | (refine WC.no rfl ?_) | (refine WC.skip ?_) | (refine WC.ret ?_))
            exact ⟨_, rfl, rfl⟩
  · by_cases hev : errTu rows gens v = 0
    · have hew : ¬ errTu rows gens w = 0 := fun h => he ⟨hev, h⟩
      rw [hev] at ca
      generalize errTu rows gens w = er at *
      refine WF.fnE rfl (fn_of Try.func13 cir13) (by show 4 ≤ 124; decide) ?_
      unfold ir13; dsimp only [k0, kI, mV, oO, oG]
      simp only [padTo, List.replicate, List.nil_append, List.append_nil]
      repeat' (first | (refine WO.yes rfl ?_) | (refine WO.opE (by intro; simp (disch := omega) only [go_sem, Zz.look, Nat.reduceAdd, hcv, hcw]; rfl) (by simp only [pt8, pt0, pt1, pt2, pt3, pt4, pt5, pt6, pt7]; rfl) ?_) | (refine WO.specE rfl rfl (c44 _) (by simp only [pt8, pt7]; rfl) ?_) | (refine WO.specE rfl rfl (ca _) (by simp only [pt8, pt4]; rfl) ?_) | (refine WO.specE rfl rfl (cb _) (by simp only [pt8, pt3]; rfl) ?_) | (refine WC.seq ?_) | (refine WC.region ?_) | (refine WO.nil ?_) | (simp only [fl1, fl2]) | (refine WC.ret ?_) | (refine WC.em2 rfl (fun hp => ?_) (fun hp => ?_) <;> try (exfalso; first | omega | contradiction)))
      exact ⟨_, rfl, rfl⟩
    · generalize errTu rows gens v = er at *
      generalize errTu rows gens w = er2 at *
      refine WF.fnE rfl (fn_of Try.func13 cir13) (by show 4 ≤ 124; decide) ?_
      unfold ir13; dsimp only [k0, kI, mV, oO, oG]
      simp only [padTo, List.replicate, List.nil_append, List.append_nil]
      repeat' (first | (refine WO.noE rfl (by simp only [pt8, pt1, pt2]; rfl) ?_) | (refine WO.opE (by intro; simp (disch := omega) only [go_sem, Zz.look, Nat.reduceAdd, hcv, hcw]; rfl) (by simp only [pt8, pt0, pt1, pt2, pt3, pt4, pt5, pt6, pt7]; rfl) ?_) | (refine WO.specE rfl rfl (c44 _) (by simp only [pt8, pt7]; rfl) ?_) | (refine WO.specE rfl rfl (ca _) (by simp only [pt8, pt4]; rfl) ?_) | (refine WO.specE rfl rfl (cb _) (by simp only [pt8, pt3]; rfl) ?_) | (refine WC.seq ?_) | (refine WC.region ?_) | (refine WO.nil ?_) | (simp only [fl1, fl2]) | (refine WC.yes rfl ?_) | (refine WC.ret ?_) | (refine WO.em2 rfl (by intro hp; simp only [hp]; rfl) (by intro hp; simp only [hp, decide_false]; rfl) (fun hp => ?_) (fun hp => ?_) <;> try (exfalso; first | omega | contradiction)))
      exact ⟨_, rfl, rfl⟩
end Go.Proofs.Ytnilimjkibimcaa

