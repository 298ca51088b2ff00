import Derived.Test.YtnilimjkibimcaaTh
set_option linter.unusedSimpArgs false
set_option linter.unusedVariables false

namespace Go.Proofs.Ytnilimjkibimcaa
open Go.Zz
set_option maxRecDepth 100000
set_option maxHeartbeats 8000000
theorem dot_neg (a b : List Int) : dotF a (negV b) = -dotF a b := by
  show psumF _ 6 = -psumF _ 6
  rw [← psumF_neg]
  exact psumF_congr fun j _ => by rw [neg_at, Int.mul_neg]
theorem dot_add (a b c : List Int) : dotF a (addV b c) = dotF a b + dotF a c := by
  show psumF _ 6 = psumF _ 6 + psumF _ 6
  rw [← psumF_add]
  exact psumF_congr fun j hj => by rw [add_at hj, Int.mul_add]
theorem img_neg {rows : List (List Int)} {v : List Int} {t : Nat} (ht : t < rows.length) : (imgF rows (negV v)).getD t 0 = -(imgF rows v).getD t 0 := by rw [img_at ht, img_at ht, dot_neg]
theorem img_add {rows : List (List Int)} {v w : List Int} {t : Nat} (ht : t < rows.length) : (imgF rows (addV v w)).getD t 0 = (imgF rows v).getD t 0 + (imgF rows w).getD t 0 := by rw [img_at ht, img_at ht, img_at ht, dot_add]
theorem ok_neg {b : Int} {v : List Int} (h : okB b v) : okB b (negV v) := fun j hj => by
  have := h j hj
  rw [neg_at]
  omega
theorem ok_1000 {b : Int} {v : List Int} (hb : b ≤ 1000) (h : okB b v) : okB 1000 v := fun j hj => by
  have := h j hj
  omega
theorem neg_len {v : List Int} (h : v.length = 6) : (negV v).length = 6 := by simp [negV, h]
theorem add_len (v w : List Int) : (addV v w).length = 6 := by simp [addV]
theorem run11 {l : AV} {rows : List (List Int)} {v w : List Int} (hl : RwL l rows) (hmax : rows.length < 9223372036854775807) (hv6 : v.length = 6) (hw6 : w.length = 6) : WF T23 (.func 11 [] []) [.agg [l], .agg (icells v), .agg (icells w)] ⟨[], []⟩ fun y m' => y = .bool true := by
  have hll := hl.len
  have hlc := hl.cells
  unfold AV.cells at hlc
  have hmv : (icells v).length = 6 := by rw [icells_len, hv6]
  have hcv := icells_cut hv6
  have hmw : (icells w).length = 6 := by rw [icells_len, hw6]
  have hcw := icells_cut hw6
  have c44 := fun m => s44 (m := m)
  have c45 := fun m => x45 (m := m) hl hmax (hl.byC _)
  have c61 := fun m => s61 (m := m) hv6
  have d61 := fun m => s61 (m := m) hw6
  by_cases hb : VT rows ∧ okB 48 v ∧ okB 48 w
  · obtain ⟨ht, hv, hw⟩ := hb
    rw [decide_eq_true ht] at c45
    rw [decide_eq_true hv] at c61
    rw [decide_eq_true hw] at d61
    have h3 := ht.1.2
    have c62 := fun m => s62 (m := m) hv6 (ok_1000 (by decide) hv)
    have c63 := fun m => s63 (m := m) hv6 hw6 (ok_1000 (by decide) hv) (ok_1000 (by decide) hw)
    obtain ⟨xa, hxa, ca⟩ := x47 (v := v) hl hmax hv6
    obtain ⟨xb, hxb, cb⟩ := x47 (v := w) hl hmax hw6
    obtain ⟨xc, hxc, cc⟩ := x47 (v := negV v) hl hmax (neg_len hv6)
    have ca := fun m => ca m l (hl.byC _)
    have cb := fun m => cb m l (hl.byC _)
    have cc := fun m => cc m l (hl.byC _)
    rw [show imgR rows v = imgF rows v from if_pos ⟨ht, hv⟩] at hxa
    rw [show imgR rows w = imgF rows w from if_pos ⟨ht, hw⟩] at hxb
    rw [show imgR rows (negV v) = imgF rows (negV v) from if_pos ⟨ht, ok_neg hv⟩] at hxc
    rw [show errI rows v = 0 from if_pos ⟨ht, hv⟩] at ca
    rw [show errI rows w = 0 from if_pos ⟨ht, hw⟩] at cb
    rw [show errI rows (negV v) = 0 from if_pos ⟨ht, ok_neg hv⟩] at cc
    have hla := IntS.len hxa
    have hlb := IntS.len hxb
    have hlc2 := IntS.len hxc
    rw [img_len] at hla hlb hlc2
    refine WF.fnE rfl (fn_of Try.func11 cir11) (by show 3 ≤ 141; decide) ?_
    unfold ir11; dsimp only [k0, kI, mV, oO, oG]
    simp only [padTo, List.replicate, List.nil_append, List.append_nil]
    repeat' (first | (refine WO.yes rfl ?_) | (refine WO.opE (by intro; simp (disch := omega) only [go_sem, Zz.look, Nat.reduceAdd, hcv, hcw]; rfl) (by simp only [pt8, pt0, pt1, pt2, pt3, pt4, pt5, pt6, pt7]; rfl) ?_) | (refine WO.opE (by intro; exact ev_lenS (by simp only [go_sem]; first | rfl | assumption)) (by simp only [pt8, pt0, pt1, pt3, pt5]; rfl) ?_) | (refine WO.specE rfl rfl (c44 _) (by simp only [pt8, pt4]; rfl) ?_) | (refine WO.specE rfl rfl (c45 _) (by simp only [pt8, pt6]; rfl) ?_) | (refine WO.specE rfl rfl (c61 _) (by simp only [pt8, pt2]; rfl) ?_) | (refine WO.specE rfl rfl (d61 _) (by simp only [pt8, pt7]; rfl) ?_) | (refine WO.specE rfl rfl (ca _) (by simp only [pt8, pt6]; rfl) ?_) | (refine WO.specE rfl rfl (cb _) (by simp only [pt8, pt4]; rfl) ?_) | (refine WT.spec rfl rfl (fun V => c62 ⟨V, []⟩) (by simp only [pt8, pt2]; rfl) ?_) | (refine WT.spec rfl rfl (fun V => cc ⟨V, []⟩) (by simp only [pt8, pt3]; rfl) ?_) | (refine WC.seq ?_) | (refine WC.region ?_) | (refine WO.nil ?_) | (simp only [fl1]) | (refine WC.drawT ?_) | (refine WT.nil ?_) | (refine WT.free rfl (by intro; simp (disch := omega) only [go_sem, Zz.look, hcv]; rfl) rfl (by simp only [pt8, pt0, pt1, pt4, pt5, pt7]; rfl) ?_) | (refine WT.big rfl rfl (by intro; simp (disch := omega) only [go_sem, Zz.look, hcv]; rfl) (by simp (disch := omega) only [go_sem, touch]; rfl) (by first | exact .inl rfl | exact .inr (apart_nil _) | exact .inr trivial | (right; apply apart_mk; simp only [apartL, List.nil_append, List.cons_append, List.getElem?_cons_succ, List.getElem?_cons_zero, Tch.free, and_true, true_and]; first | done | omega)) (by simp only [pt8, pt0, pt1]; rfl) ?_) | (refine WC.no rfl ?_) | (refine WC.skip ?_) | (refine WC.block ?_))
    refine WC.loopI (fun m s => ∃ T i, s = ⟨T, [some ⟨0, [l]⟩, some ⟨0, icells v⟩, some ⟨0, icells w⟩], []⟩ ∧ T.length = 141 ∧ gt T 3 = .pref 0 0 0 ∧ gt T 4 = .pref 1 0 0 ∧ gt T 5 = .pref 2 0 0 ∧ gt T 7 = .bool true ∧ gt T 8 = xa ∧ gt T 10 = xb ∧ gt T 12 = xc ∧ gt T 14 = .int .i64 (rows.length : Nat) ∧ gt T 15 = .int .i64 (i : Nat) ∧ m + i = rows.length) ?_ rows.length _ ⟨_, 0, rfl, rfl, rfl, rfl, rfl, rfl, rfl, rfl, rfl, rfl, rfl, by omega⟩
    rintro m _ ⟨T, i, rfl, hT, g3, g4, g5, g7, g8, g10, g12, g14, g15, hm⟩
    obtain ⟨f, rfl⟩ := ex141 hT
    clear hT
    replace g3 : f 3 = .pref 0 0 0 := g3
    replace g4 : f 4 = .pref 1 0 0 := g4
    replace g5 : f 5 = .pref 2 0 0 := g5
    replace g7 : f 7 = .bool true := g7
    replace g8 : f 8 = xa := g8
    replace g10 : f 10 = xb := g10
    replace g12 : f 12 = xc := g12
    replace g14 : f 14 = .int .i64 (rows.length : Nat) := g14
    replace g15 : f 15 = .int .i64 (i : Nat) := g15
    simp only [g3, g4, g5, g7, g8, g10, g12, g14, g15]
    by_cases hi : i < rows.length
    · have hat := hxa.atI (i := (i : Int)) (by omega) (by rw [img_len]; omega)
      have hct := hxc.atI (i := (i : Int)) (by omega) (by rw [img_len]; omega)
      rw [toNat_cast] at hat hct
      rw [img_neg hi] at hct
      have hib := img_bd (v := v) ht.2.1 hv hi
      repeat' (first | (refine WO.opE (by intro; simp (disch := omega) only [go_sem, hat, hct, Int.zero_sub, decide_not]; rfl) (by simp only [pt8, pt0, pt1, pt2, pt3, pt4, pt5, pt6, pt7]; rfl) ?_) | (refine WC.seq ?_) | (refine WC.region ?_) | (refine WO.nil ?_) | (simp only [fl1, fl10]) | (refine WC.calm rfl ?_) | (refine WC.no rfl ?_) | (refine WC.skip ?_) | (refine WC.block ?_) | (refine WC.em2 rfl (fun hp => ?_) (fun hp => ?_) <;> try (exfalso; first | omega | contradiction)))
      exact ⟨m - 1, by omega, _, i + 1, rfl, rfl, rfl, rfl, rfl, rfl, rfl, rfl, rfl, rfl, rfl, by omega⟩
    · have hie : i = rows.length := by omega
      subst hie
      have hs6 := add_len v w
      have hms : (icells (addV v w)).length = 6 := by rw [icells_len, hs6]
      have hcs := icells_cut hs6
      have hov := fun x0 x1 x2 x3 x4 x5 => icells_over6 hs6 (x0 := x0) (x1 := x1) (x2 := x2) (x3 := x3) (x4 := x4) (x5 := x5)
      have e61 := fun m => s61 (m := m) hs6
      by_cases hs : okB 48 (addV v w)
      · rw [decide_eq_true hs] at e61
        obtain ⟨xd, hxd, cd⟩ := x47 (v := addV v w) hl hmax hs6
        have cd := fun m => cd m l (hl.byC _)
        rw [show imgR rows (addV v w) = imgF rows (addV v w) from if_pos ⟨ht, hs⟩] at hxd
        rw [show errI rows (addV v w) = 0 from if_pos ⟨ht, hs⟩] at cd
        have hld := IntS.len hxd
        rw [img_len] at hld
        repeat' (first | (refine WO.yes rfl ?_) | (refine WO.opE (by intro; simp (disch := omega) only [go_sem, Zz.look, List.cons_append, List.nil_append, Nat.reduceAdd, hcv, hcw, hcs]; rfl) (by simp only [pt8, pt0, pt1, pt2, pt3, pt4, pt5, pt6, pt7]; rfl) ?_) | (refine WO.opN (by intro; simp (disch := omega) only [go_sem, Zz.look, Option.bind_eq_bind, hms, hov, setBlk, List.set_cons_zero, List.set_cons_succ]; rfl) ?_) | (refine WO.opE (by intro; exact ev_lenS (by simp only [go_sem]; first | rfl | assumption)) (by simp only [pt8, pt5]; rfl) ?_) | (refine WO.specE rfl rfl (c63 _) (by simp only [pt8, pt6]; rfl) ?_) | (refine WO.specE rfl rfl (e61 _) (by simp only [pt8, pt0]; rfl) ?_) | (refine WO.specE rfl rfl (cd _) (by simp only [pt8, pt6]; rfl) ?_) | (refine WC.seq ?_) | (refine WC.region ?_) | (refine WO.nil ?_) | (simp only [fl1]) | (refine WC.no rfl ?_) | (refine WC.skip ?_) | (refine WC.exit ?_) | (refine WC.block ?_) | (refine WC.em2 rfl (fun hp => ?_) (fun hp => ?_) <;> try (exfalso; first | omega | contradiction)))
        refine WC.loopI (fun m s => ∃ T i G, s = ⟨T, G, []⟩ ∧ T.length = 141 ∧ gt T 7 = .bool true ∧ gt T 8 = xa ∧ gt T 10 = xb ∧ gt T 14 = .int .i64 (rows.length : Nat) ∧ gt T 17 = xd ∧ gt T 19 = .int .i64 (i : Nat) ∧ m + i = rows.length) ?_ rows.length _ ⟨_, 0, _, rfl, rfl, rfl, rfl, rfl, rfl, rfl, rfl, by omega⟩
        clear g3 g4 g5 g7 g8 g10 g12 g14 g15 f hi hm
        rintro m _ ⟨T, i, G, rfl, hT, g7, g8, g10, g14, g17, g19, hm⟩
        obtain ⟨f, rfl⟩ := ex141 hT
        clear hT
        replace g7 : f 7 = .bool true := g7
        replace g8 : f 8 = xa := g8
        replace g10 : f 10 = xb := g10
        replace g14 : f 14 = .int .i64 (rows.length : Nat) := g14
        replace g17 : f 17 = xd := g17
        replace g19 : f 19 = .int .i64 (i : Nat) := g19
        simp only [g7, g8, g10, g14, g17, g19]
        by_cases hi : i < rows.length
        · have hat := hxa.atI (i := (i : Int)) (by omega) (by rw [img_len]; omega)
          have hbt := hxb.atI (i := (i : Int)) (by omega) (by rw [img_len]; omega)
          have hdt := hxd.atI (i := (i : Int)) (by omega) (by rw [img_len]; omega)
          rw [toNat_cast] at hat hbt hdt
          rw [img_add hi] at hdt
          have hib := img_bd (v := v) ht.2.1 hv hi
          have hic := img_bd (v := w) ht.2.1 hw hi
          repeat' (first | (refine WO.opE (by intro; simp (disch := omega) only [go_sem, hat, hbt, hdt, decide_not]; rfl) (by simp only [pt8, pt0, pt1, pt2, pt3, pt4, pt5, pt6, pt7]; rfl) ?_) | (refine WC.seq ?_) | (refine WC.region ?_) | (refine WO.nil ?_) | (simp only [fl1, fl10]) | (refine WC.calm rfl ?_) | (refine WC.no rfl ?_) | (refine WC.skip ?_) | (refine WC.block ?_) | (refine WC.em2 rfl (fun hp => ?_) (fun hp => ?_) <;> try (exfalso; first | omega | contradiction)))
          exact ⟨m - 1, by omega, _, i + 1, _, rfl, rfl, rfl, rfl, rfl, rfl, rfl, rfl, by omega⟩
        · have hie : i = rows.length := by omega
          subst hie
          repeat' (first | (refine WO.opE (by intro; simp (disch := omega) only [go_sem]; rfl) (by simp only [pt8, pt1, pt2, pt3, pt4, pt6]; rfl) ?_) | (refine WC.seq ?_) | (refine WC.region ?_) | (refine WO.nil ?_) | (simp only [fl1]) | (refine WC.exit ?_) | (refine WC.ret ?_) | (refine WC.em2 rfl (fun hp => ?_) (fun hp => ?_) <;> try (exfalso; first | omega | contradiction)))
          exact ⟨_, rfl, rfl⟩
      · rw [decide_eq_false hs] at e61
        repeat' (first | (refine WO.opE (by intro; simp (disch := omega) only [go_sem, Zz.look, List.cons_append, List.nil_append, Nat.reduceAdd, hcv, hcw, hcs]; rfl) (by simp only [pt8, pt0, pt1, pt2, pt4, pt5, pt6, pt7]; rfl) ?_) | (refine WO.opN (by intro; simp (disch := omega) only [go_sem, Zz.look, Option.bind_eq_bind, hms, hov, setBlk, List.set_cons_zero, List.set_cons_succ]; rfl) ?_) | (refine WO.specE rfl rfl (c63 _) (by simp only [pt8, pt6]; rfl) ?_) | (refine WO.specE rfl rfl (e61 _) (by simp only [pt8, pt0]; rfl) ?_) | (refine WC.seq ?_) | (refine WC.region ?_) | (refine WO.nil ?_) | (simp only [fl1, fl2]) | (refine WC.yes rfl ?_) | (refine WC.exit ?_) | (refine WC.ret ?_) | (refine WC.em2 rfl (fun hp => ?_) (fun hp => ?_) <;> try (exfalso; first | omega | contradiction)))
        exact ⟨_, rfl, rfl⟩
  · by_cases ht : VT rows
    · rw [decide_eq_true ht] at c45
      by_cases hv : okB 48 v
      · have hw : ¬ okB 48 w := fun h => hb ⟨ht, hv, h⟩
        rw [decide_eq_true hv] at c61
        rw [decide_eq_false hw] at d61
        refine WF.fnE rfl (fn_of Try.func11 cir11) (by show 3 ≤ 141; decide) ?_
        unfold ir11; dsimp only [k0, kI, mV, oO, oG]
        simp only [padTo, List.replicate, List.nil_append, List.append_nil]
        repeat' (first | (refine WO.yes rfl ?_) | (refine WO.opE (by intro; simp (disch := omega) only [go_sem, Zz.look, Nat.reduceAdd, hcv, hcw]; rfl) (by simp only [pt8, pt0, pt1, pt2, pt3, pt4, pt5, pt6, pt7]; rfl) ?_) | (refine WO.specE rfl rfl (c44 _) (by simp only [pt8, pt4]; rfl) ?_) | (refine WO.specE rfl rfl (c45 _) (by simp only [pt8, pt6]; rfl) ?_) | (refine WO.specE rfl rfl (c61 _) (by simp only [pt8, pt2]; rfl) ?_) | (refine WO.specE rfl rfl (d61 _) (by simp only [pt8, pt7]; rfl) ?_) | (refine WC.seq ?_) | (refine WC.region ?_) | (refine WO.nil ?_) | (simp only [fl1, fl2]) | (refine WC.yes rfl ?_) | (refine WC.ret ?_))
        exact ⟨_, rfl, rfl⟩
      · rw [decide_eq_false hv] at c61
        refine WF.fnE rfl (fn_of Try.func11 cir11) (by show 3 ≤ 141; decide) ?_
        unfold ir11; dsimp only [k0, kI, mV, oO, oG]
        simp only [padTo, List.replicate, List.nil_append, List.append_nil]
        repeat' (first | (refine WO.yes rfl ?_) | (refine WO.noE rfl (by simp only [pt8, pt0, pt6, pt7]; rfl) ?_) | (refine WO.opE (by intro; simp (disch := omega) only [go_sem, Zz.look, Nat.reduceAdd, hcv]; rfl) (by simp only [pt8, pt0, pt1, pt2, pt3, pt4, pt5, pt6, pt7]; rfl) ?_) | (refine WO.specE rfl rfl (c44 _) (by simp only [pt8, pt4]; rfl) ?_) | (refine WO.specE rfl rfl (c45 _) (by simp only [pt8, pt6]; rfl) ?_) | (refine WO.specE rfl rfl (c61 _) (by simp only [pt8, pt2]; rfl) ?_) | (refine WC.seq ?_) | (refine WC.region ?_) | (refine WO.nil ?_) | (simp only [fl1, fl2]) | (refine WC.yes rfl ?_) | (refine WC.ret ?_))
        exact ⟨_, rfl, rfl⟩
    · rw [decide_eq_false ht] at c45
      refine WF.fnE rfl (fn_of Try.func11 cir11) (by show 3 ≤ 141; decide) ?_
      unfold ir11; dsimp only [k0, kI, mV, oO, oG]
      simp only [padTo, List.replicate, List.nil_append, List.append_nil]
      repeat' (first | (refine WO.noE rfl (by simp only [pt8, pt0, pt1, pt2, pt3, pt6, pt7]; rfl) ?_) | (refine WO.opE (by intro; simp (disch := omega) only [go_sem, Zz.look, Nat.reduceAdd]; rfl) (by simp only [pt8, pt0, pt1, pt2, pt3, pt4, pt5, pt6, pt7]; rfl) ?_) | (refine WO.specE rfl rfl (c44 _) (by simp only [pt8, pt4]; rfl) ?_) | (refine WO.specE rfl rfl (c45 _) (by simp only [pt8, pt6]; rfl) ?_) | (refine WC.seq ?_) | (refine WC.region ?_) | (refine WO.nil ?_) | (simp only [fl1, fl2]) | (refine WC.yes rfl ?_) | (refine WC.ret ?_))
      exact ⟨_, rfl, rfl⟩
end Go.Proofs.Ytnilimjkibimcaa

