import Derived.Test.YtjbdefmhjmkifaaDoorIr11xc10
import Derived.Test.YtjbdefmhjmkifaaDoorL11da

set_option linter.unusedSimpArgs false
set_option linter.unusedVariables false
namespace Go.Proofs.YtjbdefmhjmkifaaDoor
open Go.Zz
set_option maxRecDepth 100000
set_option maxHeartbeats 8000000
theorem setE_cases {ps : List Pipe} {sup tol : Int} {ids : List Int} : (¬ VO ps sup tol ∧ setE ps sup tol ids 0 = 1) ∨ (VO ps sup tol ∧ rsE ps ids ≠ 0 ∧ setE ps sup tol ids 0 = rsE ps ids) ∨ (VO ps sup tol ∧ Ris ids ∧ Has ps ids ∧ rsE ps ids = 0 ∧ setE ps sup tol ids 0 = 0) := by
  unfold setE rsE
  by_cases hv : VO ps sup tol
  · by_cases hr : Ris ids
    · rw [if_pos hr, if_pos ⟨hv, ⟨by decide, by decide⟩, hr⟩]
      by_cases hh : Has ps ids
      · rw [if_pos hh]
        exact .inr (.inr ⟨hv, hr, hh, rfl, rfl⟩)
      · rw [if_neg hh]
        exact .inr (.inl ⟨hv, by decide, rfl⟩)
    · rw [if_neg hr, if_neg fun h => hr h.2.2]
      exact .inr (.inl ⟨hv, by decide, rfl⟩)
  · exact .inl ⟨hv, if_neg fun h => hv h.1⟩
theorem setE_warm {ps : List Pipe} {sup tol w : Int} {ids : List Int} : setE ps sup tol ids w = if -100 ≤ w ∧ w ≤ 100 then setE ps sup tol ids 0 else 1 := by
  unfold setE
  by_cases hw : -100 ≤ w ∧ w ≤ 100
  · rw [if_pos hw]
    by_cases h : VO ps sup tol ∧ Ris ids
    · have a : VO ps sup tol ∧ (-100 ≤ w ∧ w ≤ 100) ∧ Ris ids := ⟨h.1, hw, h.2⟩
      have b : VO ps sup tol ∧ (-100 ≤ (0 : Int) ∧ (0 : Int) ≤ 100) ∧ Ris ids := ⟨h.1, ⟨by decide, by decide⟩, h.2⟩
      rw [if_pos a, if_pos b]
    · have a : ¬ (VO ps sup tol ∧ (-100 ≤ w ∧ w ≤ 100) ∧ Ris ids) := fun h' => h ⟨h'.1, h'.2.2⟩
      have b : ¬ (VO ps sup tol ∧ (-100 ≤ (0 : Int) ∧ (0 : Int) ≤ 100) ∧ Ris ids) := fun h' => h ⟨h'.1, h'.2.2⟩
      rw [if_neg a, if_neg b]
  · rw [if_neg hw, if_neg fun h => hw h.2.1]
/-- The reference's Demand. -/
theorem f25 {pv iv : AV} {ps : List Pipe} {ids : List Int} {sup tol : Int} (hq : PpL pv ps) (hmax : ps.length < 9223372036854775807) (hiv : IntS iv ids) (himax : ids.length < 9223372036854775807) :
    WF D3 (.func 25 [] []) [.agg [pv, .int .i64 sup, .int .i64 tol], iv] ⟨[], []⟩ fun y m' => y = .tuple [.int .i64 (if setE ps sup tol ids 0 = 0 then dem ps ids else 0), .int .i64 (setE ps sup tol ids 0)] := by
  have hil := hiv.len
  have h24 := fun m => s24 (sup := sup) (tol := tol) (m := m) hq hmax
  have h62 := fun m => s62 (sup := sup) (tol := tol) (m := m) hq hmax hiv himax
  rcases setE_cases (ps := ps) (sup := sup) (tol := tol) (ids := ids) with ⟨hv, e⟩ | ⟨hv, hn, e⟩ | ⟨hv, hr, hh, e0, e⟩
  · rw [e, if_neg (by decide)]
    rw [decide_eq_false hv] at h24
    refine WF.fnE rfl (fn_of Tryd.func25 cir25) (by show 2 ≤ 40; decide) ?_
    unfold ir25
    simp only [padTo, List.replicate, List.nil_append, List.append_nil, List.cons_append]
    repeat' (first | (refine WO.opE (by intro; simp (disch := omega) only [go_sem, zeros, Zz.look, List.append_assoc, List.length_append, ov_all6, ov_one0, Nat.reduceAdd, Nat.reduceMul, Nat.reduceSub, Nat.reduceLeDiff, Nat.reduceEqDiff, Int.reduceNeg, Int.reduceAdd, Int.reduceToNat, reduceIte, reduceCtorEq]; rfl) (by simp only [pt8, pt0, pt1, pt2, pt3, pt4, pt5, pt6, pt7]; rfl) ?_) | (refine WO.specE rfl rfl (h24 _) (by simp only [pt8, pt0, pt1, pt2, pt3, pt4, pt5, pt6, pt7]; rfl) ?_) | (refine WC.seq ?_) | (refine WC.region ?_) | (refine WO.nil ?_) | (simp only [fl1, fl2, fl3, fl4, fl5, fl6, fl7, fl8, fl9, fl10, Nat.reduceBEq]) | (refine WC.yes rfl ?_) | (refine WC.ret ?_))
    exact ⟨_, rfl, rfl⟩
  · rw [e, if_neg hn]
    rw [decide_eq_true hv] at h24
    generalize rsE ps ids = r at *
    refine WF.fnE rfl (fn_of Tryd.func25 cir25) (by show 2 ≤ 40; decide) ?_
    unfold ir25
    simp only [padTo, List.replicate, List.nil_append, List.append_nil, List.cons_append]
    repeat' (first | (refine WO.opE (by intro; simp (disch := omega) only [go_sem, zeros, Zz.look, List.append_assoc, List.length_append, ov_all6, ov_one0, Nat.reduceAdd, Nat.reduceMul, Nat.reduceSub, Nat.reduceLeDiff, Nat.reduceEqDiff, Int.reduceNeg, Int.reduceAdd, Int.reduceToNat, reduceIte, reduceCtorEq]; rfl) (by simp only [pt8, pt0, pt1, pt2, pt3, pt4, pt5, pt6, pt7]; rfl) ?_) | (refine WO.specE rfl rfl (h24 _) (by simp only [pt8, pt0, pt1, pt2, pt3, pt4, pt5, pt6, pt7]; rfl) ?_) | (refine WO.specE rfl rfl (h62 _) (by simp only [pt8, pt0, pt1, pt2, pt3, pt4, pt5, pt6, pt7]; rfl) ?_) | (refine WC.seq ?_) | (refine WC.region ?_) | (refine WO.nil ?_) | (simp only [fl1, fl2, fl3, fl4, fl5, fl6, fl7, fl8, fl9, fl10, Nat.reduceBEq]) | (refine WC.no rfl ?_) | (refine WC.skip ?_) | (refine WC.ret ?_) | (refine WC.em2 rfl (fun hp => ?_) (fun hp => ?_) <;> try (exfalso; first | omega | contradiction)))
    exact ⟨_, rfl, rfl⟩
  · rw [e, if_pos rfl]
    rw [decide_eq_true hv] at h24
    rw [e0] at h62
    have hl := ris_len hv hr hh
    refine WF.fnE rfl (fn_of Tryd.func25 cir25) (by show 2 ≤ 40; decide) ?_
    unfold ir25
    simp only [padTo, List.replicate, List.nil_append, List.append_nil, List.cons_append]
    repeat' (first | (refine WO.opE (by intro; simp (disch := omega) only [go_sem, zeros, Zz.look, List.append_assoc, List.length_append, ov_all6, ov_one0, Nat.reduceAdd, Nat.reduceMul, Nat.reduceSub, Nat.reduceLeDiff, Nat.reduceEqDiff, Int.reduceNeg, Int.reduceAdd, Int.reduceToNat, reduceIte, reduceCtorEq]; rfl) (by simp only [pt8, pt0, pt1, pt2, pt3, pt4, pt5, pt6, pt7]; rfl) ?_) | (refine WO.specE rfl rfl (h24 _) (by simp only [pt8, pt0, pt1, pt2, pt3, pt4, pt5, pt6, pt7]; rfl) ?_) | (refine WO.specE rfl rfl (h62 _) (by simp only [pt8, pt0, pt1, pt2, pt3, pt4, pt5, pt6, pt7]; rfl) ?_) | (refine WC.seq ?_) | (refine WC.region ?_) | (refine WO.nil ?_) | (simp only [fl1, fl2, fl3, fl4, fl5, fl6, fl7, fl8, fl9, fl10, Nat.reduceBEq]) | (refine WC.no rfl ?_) | (refine WC.skip ?_) | (refine WC.block ?_))
    refine WC.loopI (fun m s => ∃ T i, s = ⟨T, [some ⟨0, [pv, .int .i64 sup, .int .i64 tol]⟩], []⟩ ∧ T.length = 40 ∧ gt T 1 = iv ∧ gt T 2 = .pref 0 0 0 ∧ gt T 8 = .int .i64 (demN ps ids i) ∧ gt T 9 = .int .i64 (i : Nat) ∧ m + i = ids.length) ?_ ids.length _ ⟨_, 0, rfl, rfl, rfl, rfl, rfl, rfl, by omega⟩
    rintro m _ ⟨T, i, rfl, hT, g1, g2, g8, g9, hm⟩
    obtain ⟨f, rfl⟩ := ex40 hT
    clear hT
    replace g1 : f 1 = iv := g1
    replace g2 : f 2 = .pref 0 0 0 := g2
    replace g8 : f 8 = .int .i64 (demN ps ids i) := g8
    replace g9 : f 9 = .int .i64 (i : Nat) := g9
    simp only [g1, g2, g8, g9]
    have hD := demN_bnd hv ids i (by omega)
    by_cases hin : i < ids.length
    · have hpi := hh i hin
      have hp : posI ps (ids.getD i 0) = ((pos ps (ids.getD i 0) : Nat) : Int) := if_pos hpi
      have h54 := fun m => s54 (sup := sup) (tol := tol) (id := ids.getD i 0) (m := m) hq hmax
      rw [hp] at h54
      have hat := hv.at (ids.getD i 0)
      unfold pipeOf at hat
      have hsu := demN_succ (ps := ps) hin
      unfold pipeOf at hsu
      repeat' (first | (refine WO.opE (by intro; simp (disch := omega) only [go_sem, zeros, Zz.look, List.append_assoc, List.length_append, ov_all6, ov_one0, Nat.reduceAdd, Nat.reduceMul, Nat.reduceSub, Nat.reduceLeDiff, Nat.reduceEqDiff, Int.reduceNeg, Int.reduceAdd, Int.reduceToNat, reduceIte, reduceCtorEq, hq.at, hiv.atI]; rfl) (by simp only [pt8, pt0, pt1, pt2, pt3, pt4, pt5, pt6, pt7]; rfl) ?_) | (refine WO.opE (by intro; exact ev_lenS (by simp only [go_sem]; first | rfl | assumption)) (by simp only [pt8, pt0, pt1, pt2, pt3, pt4, pt5, pt6, pt7]; rfl) ?_) | (refine WT.spec rfl rfl (fun V => h54 _) (by simp only [pt8, pt0, pt1, pt2, pt3, pt4, pt5, pt6, pt7]; rfl) ?_) | (refine WC.seq ?_) | (refine WC.region ?_) | (refine WO.nil ?_) | (simp only [fl1, fl2, fl3, fl4, fl5, fl6, fl7, fl8, fl9, fl10, Nat.reduceBEq]) | (refine WC.drawT ?_) | (refine WT.nil ?_) | (refine WT.free rfl (by intro; simp (disch := omega) only [go_sem, zeros, Zz.look, List.append_assoc, List.length_append, ov_all6, ov_one0, Nat.reduceAdd, Nat.reduceMul, Nat.reduceSub, Nat.reduceLeDiff, Nat.reduceEqDiff, Int.reduceNeg, Int.reduceAdd, Int.reduceToNat, reduceIte, reduceCtorEq, hq.at, hiv.atI]; rfl) rfl (by simp only [pt8, pt0, pt1, pt2, pt3, pt4, pt5, pt6, pt7]; rfl) ?_) | (refine WT.big rfl rfl (by intro; simp (disch := omega) only [go_sem, zeros, Zz.look, List.append_assoc, List.length_append, ov_all6, ov_one0, Nat.reduceAdd, Nat.reduceMul, Nat.reduceSub, Nat.reduceLeDiff, Nat.reduceEqDiff, Int.reduceNeg, Int.reduceAdd, Int.reduceToNat, reduceIte, reduceCtorEq, hq.at, hiv.atI]; rfl) (by simp (disch := omega) only [go_sem, zeros, Zz.look, List.append_assoc, List.length_append, ov_all6, ov_one0, Nat.reduceAdd, Nat.reduceMul, Nat.reduceSub, Nat.reduceLeDiff, Nat.reduceEqDiff, Int.reduceNeg, Int.reduceAdd, Int.reduceToNat, reduceIte, reduceCtorEq, hq.at, hiv.atI, touch]; rfl) (by first | exact .inl rfl | exact .inr (apart_nil _) | exact .inr trivial | (right; apply apart_mk; simp only [apartL, List.nil_append, List.cons_append, List.getElem?_cons_succ, List.getElem?_cons_zero, Tch.free, and_true, true_and]; first | done | omega)) (by simp only [pt8, pt0, pt1, pt2, pt3, pt4, pt5, pt6, pt7]; rfl) ?_) | (refine WC.skip ?_) | (refine WC.block ?_) | (refine WC.em2 rfl (fun hp => ?_) (fun hp => ?_) <;> try (exfalso; first | omega | contradiction)))
      exact ⟨m - 1, by omega, _, i + 1, rfl, rfl, rfl, rfl, congrArg (AV.int .i64) hsu.symm, rfl, by omega⟩
    · have hi' : i = ids.length := by omega
      subst hi'
      have eD : demN ps ids ids.length = dem ps ids := rfl
      repeat' (first | (refine WO.opE (by intro; simp (disch := omega) only [go_sem, zeros, Zz.look, List.append_assoc, List.length_append, ov_all6, ov_one0, Nat.reduceAdd, Nat.reduceMul, Nat.reduceSub, Nat.reduceLeDiff, Nat.reduceEqDiff, Int.reduceNeg, Int.reduceAdd, Int.reduceToNat, reduceIte, reduceCtorEq]; rfl) (by simp only [pt8, pt0, pt1, pt2, pt3, pt4, pt5, pt6, pt7]; rfl) ?_) | (refine WO.opE (by intro; exact ev_lenS (by simp only [go_sem]; first | rfl | assumption)) (by simp only [pt8, pt0, pt1, pt2, pt3, pt4, pt5, pt6, pt7]; rfl) ?_) | (refine WC.seq ?_) | (refine WC.region ?_) | (refine WO.nil ?_) | (simp only [fl1, fl2, fl3, fl4, fl5, fl6, fl7, fl8, fl9, fl10, Nat.reduceBEq]) | (refine WC.exit ?_) | (refine WC.ret ?_) | (refine WC.em2 rfl (fun hp => ?_) (fun hp => ?_) <;> try (exfalso; first | omega | contradiction)))
      refine ⟨_, rfl, ?_⟩
      simp only [oneRes, gt8, gt0, gt1, gt2, gt3, gt4, gt5, gt6, gt7]
      rw [← eD]
theorem s25 {pv iv : AV} {ps : List Pipe} {ids : List Int} {sup tol : Int} (hq : PpL pv ps) (hmax : ps.length < 9223372036854775807) (hiv : IntS iv ids) (himax : ids.length < 9223372036854775807) {m : Mem} :
    borrowE D3 25 [.agg [pv, .int .i64 sup, .int .i64 tol], iv] m = some (.tuple [.int .i64 (if setE ps sup tol ids 0 = 0 then dem ps ids else 0), .int .i64 (setE ps sup tol ids 0)], m) :=
  borrowE_of (pures_cons (pure3 hq.pureC) (pures_cons hiv.pureA rfl)) ((f25 hq hmax hiv himax).mono fun y m' h => by rw [h]; rfl)

noncomputable def D4 : Env := D3.put 25 (borrowE D3 25)
theorem D4_ok : EnvOk Tryd.prog D4 := Env.put_ok D3_ok (borrowE_ok D3_ok (callable Tryd.func25 (by kernel_rfl)))
/-- The reference's Shift. -/
theorem f26 {pv iv : AV} {ps : List Pipe} {ids : List Int} {sup tol id w : Int} (hq : PpL pv ps) (hmax : ps.length < 9223372036854775807) (hiv : IntS iv ids) (himax : ids.length < 9223372036854775807) :
    WF D4 (.func 26 [] []) [.agg [pv, .int .i64 sup, .int .i64 tol], iv, .int .i64 id, .int .i64 w] ⟨[], []⟩ fun y m' => y = .tuple [.int .i64 (if setE ps sup tol ids w = 0 ∧ id ∈ ids then shiftOf (pipeOf ps id) (lacks ps sup ids) w else 0), .int .i64 (if setE ps sup tol ids w = 0 then if id ∈ ids then 0 else 4 else setE ps sup tol ids w)] := by
  have hil := hiv.len
  have h25 := fun m => s25 (sup := sup) (tol := tol) (m := m) hq hmax hiv himax
  rw [setE_warm]
  by_cases hw : -100 ≤ w ∧ w ≤ 100
  · rw [if_pos hw]
    by_cases h0 : setE ps sup tol ids 0 = 0
    · obtain ⟨hv, _, hr, hh⟩ := setE_ok.1 h0
      have hl := ris_len hv hr hh
      have hlb := lacks_bnd hv (ids := ids) (by omega)
      simp only [h0, if_true, true_and] at h25 ⊢
      have h56 := fun m => s56x (m := m) hq hiv hv hh (by omega) (hiv.byVal _)
      refine WF.fnE rfl (fn_of Tryd.func26 cir26) (by show 4 ≤ 55; decide) ?_
      unfold ir26
      simp only [padTo, List.replicate, List.nil_append, List.append_nil, List.cons_append]
      repeat' (first | (refine WO.yes rfl ?_) | (refine WO.opE (by intro; simp (disch := omega) only [go_sem, zeros, Zz.look, List.append_assoc, List.length_append, ov_all6, ov_one0, Nat.reduceAdd, Nat.reduceMul, Nat.reduceSub, Nat.reduceLeDiff, Nat.reduceEqDiff, Int.reduceNeg, Int.reduceAdd, Int.reduceToNat, reduceIte, reduceCtorEq]; rfl) (by simp only [pt8, pt0, pt1, pt2, pt3, pt4, pt5, pt6, pt7]; rfl) ?_) | (refine WO.specE rfl rfl (h25 _) (by simp only [pt8, pt0, pt1, pt2, pt3, pt4, pt5, pt6, pt7]; rfl) ?_) | (refine WO.specE rfl rfl (s63) (by simp only [pt8, pt0, pt1, pt2, pt3, pt4, pt5, pt6, pt7]; rfl) ?_) | (refine WC.seq ?_) | (refine WC.region ?_) | (refine WO.nil ?_) | (simp only [fl1, fl2, fl3, fl4, fl5, fl6, fl7, fl8, fl9, fl10, Nat.reduceBEq]) | (refine WC.no rfl ?_) | (refine WC.skip ?_) | (refine WC.block ?_) | (refine WC.em2 rfl (fun hp => ?_) (fun hp => ?_) <;> try (exfalso; first | omega | contradiction)))
      refine WC.loopI (fun m s => ∃ T i, s = ⟨T, [some ⟨0, [pv, .int .i64 sup, .int .i64 tol]⟩], []⟩ ∧ T.length = 55 ∧ gt T 1 = iv ∧ gt T 2 = .int .i64 id ∧ gt T 3 = .int .i64 w ∧ gt T 4 = .pref 0 0 0 ∧ gt T 13 = .int .i64 (i : Nat) ∧ m + i = ids.length ∧ ∀ j, j < i → ids.getD j 0 ≠ id) ?_ ids.length _ ⟨_, 0, rfl, rfl, rfl, rfl, rfl, rfl, rfl, by omega, fun j hj => by omega⟩
      rintro m _ ⟨T, i, rfl, hT, g1, g2, g3, g4, g13, hm, hi⟩
      obtain ⟨f, rfl⟩ := ex55 hT
      clear hT
      replace g1 : f 1 = iv := g1
      replace g2 : f 2 = .int .i64 id := g2
      replace g3 : f 3 = .int .i64 w := g3
      replace g4 : f 4 = .pref 0 0 0 := g4
      replace g13 : f 13 = .int .i64 (i : Nat) := g13
      simp only [g1, g2, g3, g4, g13]
      by_cases hin : i < ids.length
      · by_cases hid : ids.getD i 0 = id
        · have hmem : id ∈ ids := by
            rw [← hid, List.getD_eq_getElem?_getD, List.getElem?_eq_getElem hin]
            exact List.getElem_mem hin
          rw [if_pos hmem, if_pos hmem]
          have hpos := hh i hin
          rw [hid] at hpos
          have h54 := fun m => s54 (sup := sup) (tol := tol) (id := id) (m := m) hq hmax
          have hpi : posI ps id = ((pos ps id : Nat) : Int) := if_pos hpos
          rw [hpi] at h54
          have hat := (hv.at id).2.2
          have h59 := fun m => s59 (m := m) (p := pipeOf ps id) (l := lacks ps sup ids) (w := w) hat hw (by omega)
          generalize shiftOf (pipeOf ps id) (lacks ps sup ids) w = sh at *
          have epp : pipeOf ps id = nth ps (pos ps id) := rfl
          rw [epp] at h59
          generalize pos ps id = pp at *
          repeat' (first | (refine WO.opE (by intro; simp (disch := omega) only [go_sem, zeros, Zz.look, List.append_assoc, List.length_append, ov_all6, ov_one0, Nat.reduceAdd, Nat.reduceMul, Nat.reduceSub, Nat.reduceLeDiff, Nat.reduceEqDiff, Int.reduceNeg, Int.reduceAdd, Int.reduceToNat, reduceIte, reduceCtorEq, hq.at, hiv.atI, cut10, Pipe.cells]; rfl) (by simp only [pt8, pt0, pt1, pt2, pt3, pt4, pt5, pt6, pt7]; rfl) ?_) | (refine WO.opE (by intro; exact ev_lenS (by simp only [go_sem]; first | rfl | assumption)) (by simp only [pt8, pt0, pt1, pt2, pt3, pt4, pt5, pt6, pt7]; rfl) ?_) | (refine WT.spec rfl rfl (fun V => h54 _) (by simp only [pt8, pt0, pt1, pt2, pt3, pt4, pt5, pt6, pt7]; rfl) ?_) | (refine WT.spec rfl rfl (fun V => h56 _) (by simp only [pt8, pt0, pt1, pt2, pt3, pt4, pt5, pt6, pt7]; rfl) ?_) | (refine WT.spec rfl rfl (fun V => h59 _) (by simp only [pt8, pt0, pt1, pt2, pt3, pt4, pt5, pt6, pt7]; rfl) ?_) | (refine WC.seq ?_) | (refine WC.region ?_) | (refine WO.nil ?_) | (simp only [fl1, fl2, fl3, fl4, fl5, fl6, fl7, fl8, fl9, fl10, Nat.reduceBEq]) | (refine WC.drawT ?_) | (refine WT.nil ?_) | (refine WT.free rfl (by intro; simp (disch := omega) only [go_sem, zeros, Zz.look, List.append_assoc, List.length_append, ov_all6, ov_one0, Nat.reduceAdd, Nat.reduceMul, Nat.reduceSub, Nat.reduceLeDiff, Nat.reduceEqDiff, Int.reduceNeg, Int.reduceAdd, Int.reduceToNat, reduceIte, reduceCtorEq, hq.at, hiv.atI, cut10, Pipe.cells]; rfl) rfl (by simp only [pt8, pt0, pt1, pt2, pt3, pt4, pt5, pt6, pt7]; rfl) ?_) | (refine WT.big rfl rfl (by intro; simp (disch := omega) only [go_sem, zeros, Zz.look, List.append_assoc, List.length_append, ov_all6, ov_one0, Nat.reduceAdd, Nat.reduceMul, Nat.reduceSub, Nat.reduceLeDiff, Nat.reduceEqDiff, Int.reduceNeg, Int.reduceAdd, Int.reduceToNat, reduceIte, reduceCtorEq, hq.at, hiv.atI, cut10, Pipe.cells]; rfl) (by simp (disch := omega) only [go_sem, zeros, Zz.look, List.append_assoc, List.length_append, ov_all6, ov_one0, Nat.reduceAdd, Nat.reduceMul, Nat.reduceSub, Nat.reduceLeDiff, Nat.reduceEqDiff, Int.reduceNeg, Int.reduceAdd, Int.reduceToNat, reduceIte, reduceCtorEq, hq.at, hiv.atI, cut10, Pipe.cells, touch]; rfl) (by first | exact .inl rfl | exact .inr (apart_nil _) | exact .inr trivial | (right; apply apart_mk; simp only [apartL, List.nil_append, List.cons_append, List.getElem?_cons_succ, List.getElem?_cons_zero, Tch.free, and_true, true_and]; first | done | omega)) (by simp only [pt8, pt0, pt1, pt2, pt3, pt4, pt5, pt6, pt7]; rfl) ?_) | (refine WC.skip ?_) | (refine WC.ret ?_) | (refine WC.block ?_) | (refine WC.em2 rfl (fun hp => ?_) (fun hp => ?_) <;> try (exfalso; first | omega | contradiction)))
          all_goals exact ⟨_, rfl, rfl⟩
        · have hid1 := hid
          repeat' (first | (refine WO.opE (by intro; simp (disch := omega) only [go_sem, zeros, Zz.look, List.append_assoc, List.length_append, ov_all6, ov_one0, Nat.reduceAdd, Nat.reduceMul, Nat.reduceSub, Nat.reduceLeDiff, Nat.reduceEqDiff, Int.reduceNeg, Int.reduceAdd, Int.reduceToNat, reduceIte, reduceCtorEq, hiv.atI]; rfl) (by simp only [pt8, pt0, pt1, pt2, pt3, pt4, pt5, pt6, pt7]; rfl) ?_) | (refine WO.opE (by intro; exact ev_lenS (by simp only [go_sem]; first | rfl | assumption)) (by simp only [pt8, pt0, pt1, pt2, pt3, pt4, pt5, pt6, pt7]; rfl) ?_) | (refine WC.seq ?_) | (refine WC.region ?_) | (refine WO.nil ?_) | (simp only [fl1, fl2, fl3, fl4, fl5, fl6, fl7, fl8, fl9, fl10, Nat.reduceBEq]) | (refine WC.skip ?_) | (refine WC.block ?_) | (refine WC.em2 rfl (fun hp => ?_) (fun hp => ?_) <;> try (exfalso; first | omega | contradiction)))
          exact ⟨m - 1, by omega, _, i + 1, rfl, rfl, rfl, rfl, rfl, rfl, rfl, by omega, fun j hj => by
            by_cases e : j = i
            · subst e; exact hid
            · exact hi j (by omega)⟩
      · have hmem : ¬ id ∈ ids := fun h => by
          obtain ⟨j, hj, e⟩ := List.getElem_of_mem h
          have := hi j (by omega)
          rw [List.getD_eq_getElem?_getD, List.getElem?_eq_getElem hj] at this
          exact this e
        rw [if_neg hmem, if_neg hmem]
        repeat' (first | (refine WO.opE (by intro; simp (disch := omega) only [go_sem, zeros, Zz.look, List.append_assoc, List.length_append, ov_all6, ov_one0, Nat.reduceAdd, Nat.reduceMul, Nat.reduceSub, Nat.reduceLeDiff, Nat.reduceEqDiff, Int.reduceNeg, Int.reduceAdd, Int.reduceToNat, reduceIte, reduceCtorEq]; rfl) (by simp only [pt8, pt0, pt1, pt2, pt3, pt4, pt5, pt6, pt7]; rfl) ?_) | (refine WO.opE (by intro; exact ev_lenS (by simp only [go_sem]; first | rfl | assumption)) (by simp only [pt8, pt0, pt1, pt2, pt3, pt4, pt5, pt6, pt7]; rfl) ?_) | (refine WC.seq ?_) | (refine WC.region ?_) | (refine WO.nil ?_) | (simp only [fl1, fl2, fl3, fl4, fl5, fl6, fl7, fl8, fl9, fl10, Nat.reduceBEq]) | (refine WC.exit ?_) | (refine WC.ret ?_) | (refine WC.em2 rfl (fun hp => ?_) (fun hp => ?_) <;> try (exfalso; first | omega | contradiction)))
        all_goals exact ⟨_, rfl, rfl⟩
    · rw [if_neg (fun h => h0 h.1), if_neg h0]
      rw [if_neg h0] at h25
      generalize setE ps sup tol ids 0 = e at *
      refine WF.fnE rfl (fn_of Tryd.func26 cir26) (by show 4 ≤ 55; decide) ?_
      unfold ir26
      simp only [padTo, List.replicate, List.nil_append, List.append_nil, List.cons_append]
      repeat' (first | (refine WO.yes rfl ?_) | (refine WO.noE rfl (by simp only [pt8, pt0, pt1, pt2, pt3, pt4, pt5, pt6, pt7]; rfl) ?_) | (refine WO.opE (by intro; simp (disch := omega) only [go_sem, zeros, Zz.look, List.append_assoc, List.length_append, ov_all6, ov_one0, Nat.reduceAdd, Nat.reduceMul, Nat.reduceSub, Nat.reduceLeDiff, Nat.reduceEqDiff, Int.reduceNeg, Int.reduceAdd, Int.reduceToNat, reduceIte, reduceCtorEq]; rfl) (by simp only [pt8, pt0, pt1, pt2, pt3, pt4, pt5, pt6, pt7]; rfl) ?_) | (refine WO.specE rfl rfl (h25 _) (by simp only [pt8, pt0, pt1, pt2, pt3, pt4, pt5, pt6, pt7]; rfl) ?_) | (refine WO.specE rfl rfl (s63) (by simp only [pt8, pt0, pt1, pt2, pt3, pt4, pt5, pt6, pt7]; rfl) ?_) | (refine WC.seq ?_) | (refine WC.region ?_) | (refine WO.nil ?_) | (simp only [fl1, fl2, fl3, fl4, fl5, fl6, fl7, fl8, fl9, fl10, Nat.reduceBEq]) | (refine WC.yes rfl ?_) | (refine WC.skip ?_) | (refine WC.ret ?_) | (refine WO.em2 rfl (by intro hp; simp only [hp, decide_true]; rfl) (by intro hp; simp only [hp, decide_false]; rfl) (fun hp => ?_) (fun hp => ?_) <;> try (exfalso; first | omega | contradiction)) | (refine WC.em2 rfl (fun hp => ?_) (fun hp => ?_) <;> try (exfalso; first | omega | contradiction)))
      all_goals first
        | exact ⟨_, rfl, rfl⟩
        | (obtain rfl : e = 1 := by omega
           exact ⟨_, rfl, rfl⟩)
  · have hw1 := hw
    rw [if_neg hw, if_neg (fun h => absurd h.1 (by decide)), if_neg (by decide)]
    generalize setE ps sup tol ids 0 = e at *
    refine WF.fnE rfl (fn_of Tryd.func26 cir26) (by show 4 ≤ 55; decide) ?_
    unfold ir26
    simp only [padTo, List.replicate, List.nil_append, List.append_nil, List.cons_append]
    repeat' (first | (refine WO.yes rfl ?_) | (refine WO.noE rfl (by simp only [pt8, pt0, pt1, pt2, pt3, pt4, pt5, pt6, pt7]; rfl) ?_) | (refine WO.opE (by intro; simp (disch := omega) only [go_sem, zeros, Zz.look, List.append_assoc, List.length_append, ov_all6, ov_one0, Nat.reduceAdd, Nat.reduceMul, Nat.reduceSub, Nat.reduceLeDiff, Nat.reduceEqDiff, Int.reduceNeg, Int.reduceAdd, Int.reduceToNat, reduceIte, reduceCtorEq]; rfl) (by simp only [pt8, pt0, pt1, pt2, pt3, pt4, pt5, pt6, pt7]; rfl) ?_) | (refine WO.specE rfl rfl (h25 _) (by simp only [pt8, pt0, pt1, pt2, pt3, pt4, pt5, pt6, pt7]; rfl) ?_) | (refine WO.specE rfl rfl (s63) (by simp only [pt8, pt0, pt1, pt2, pt3, pt4, pt5, pt6, pt7]; rfl) ?_) | (refine WC.seq ?_) | (refine WC.region ?_) | (refine WO.nil ?_) | (simp only [fl1, fl2, fl3, fl4, fl5, fl6, fl7, fl8, fl9, fl10, Nat.reduceBEq]) | (refine WC.yes rfl ?_) | (refine WC.ret ?_) | (refine WO.em2 rfl (by intro hp; simp only [hp, decide_true]; rfl) (by intro hp; simp only [hp, decide_false]; rfl) (fun hp => ?_) (fun hp => ?_) <;> try (exfalso; first | omega | contradiction)) | (refine WC.em2 rfl (fun hp => ?_) (fun hp => ?_) <;> try (exfalso; first | omega | contradiction)))
    all_goals exact ⟨_, rfl, rfl⟩
theorem s26 {pv iv : AV} {ps : List Pipe} {ids : List Int} {sup tol id w : Int} (hq : PpL pv ps) (hmax : ps.length < 9223372036854775807) (hiv : IntS iv ids) (himax : ids.length < 9223372036854775807) {m : Mem} :
    borrowE D4 26 [.agg [pv, .int .i64 sup, .int .i64 tol], iv, .int .i64 id, .int .i64 w] m = some (.tuple [.int .i64 (if setE ps sup tol ids w = 0 ∧ id ∈ ids then shiftOf (pipeOf ps id) (lacks ps sup ids) w else 0), .int .i64 (if setE ps sup tol ids w = 0 then if id ∈ ids then 0 else 4 else setE ps sup tol ids w)], m) :=
  borrowE_of (pures_cons (pure3 hq.pureC) (pures_cons hiv.pureA (pures_cons rfl (pures_cons rfl rfl)))) ((f26 hq hmax hiv himax).mono fun y m' h => by rw [h]; rfl)

noncomputable def D5 : Env := D4.put 26 (borrowE D4 26)
theorem D5_ok : EnvOk Tryd.prog D5 := Env.put_ok D4_ok (borrowE_ok D4_ok (callable Tryd.func26 (by kernel_rfl)))
end Go.Proofs.YtjbdefmhjmkifaaDoor

