import Derived.Test.YtnilimjkibimcaaTd
set_option linter.unusedSimpArgs false
set_option linter.unusedVariables false

namespace Go.Proofs.Ytnilimjkibimcaa
open Go.Zz
set_option maxRecDepth 100000
set_option maxHeartbeats 8000000
def tunOK (rows gens : List (List Int)) (v : List Int) : Prop := VT rows ∧ gens.length = rows.length ∧ okB 48 v ∧ ∀ i, i < gens.length → okB 576 (rw_ gens i)
instance (rows gens : List (List Int)) (v : List Int) : Decidable (tunOK rows gens v) := by unfold tunOK; infer_instance
def tunP (rows gens : List (List Int)) (v : List Int) : List Int := if tunOK rows gens v ∧ okB 576 (tuneF rows gens v) then tuneF rows gens v else zer6
def errTu (rows gens : List (List Int)) (v : List Int) : Int := if tunOK rows gens v then (if okB 576 (tuneF rows gens v) then 0 else 3) else 1
theorem newI6 (H : Hp) (r : List Int) : Zz.newA H (.agg (icells r)) = some (.agg (icells r)) := by
  have : ∀ r : List Int, Zz.newL H (icells r) = some (icells r) := fun r => by
    induction r with
    | nil => rfl
    | cons x r ih =>
      show (match Zz.newC H (.int .i64 x), Zz.newL H (icells r) with | some a, some l => some (a :: l) | _, _ => none) = _
      rw [ih]
      rfl
  simp only [Zz.newA, this]
theorem f57 {l gx : AV} {rows gens : List (List Int)} {v : List Int} (hl : RwL l rows) (hmax : rows.length < 9223372036854775807) (hgx : RwL gx gens) (hgm : gens.length < 9223372036854775807) (hv6 : v.length = 6) : WF T14 (.func 57 [] []) [.agg [l], gx, .agg (icells v)] ⟨[], []⟩ fun y m' => y = .tuple [.agg (icells (tunP rows gens v)), .int .i64 (errTu rows gens v)] := by
  have hll := hl.len
  have hgl := hgx.len
  have hlc := hl.cells
  unfold AV.cells at hlc
  have hmv : (icells v).length = 6 := by rw [icells_len, hv6]
  have hcv := icells_cut hv6
  have c45 := fun m => x45 (m := m) hl hmax (hl.byC _)
  have c61 := fun m => s61 (m := m) hv6
  have hze : icells zer6 = [.int .i64 0, .int .i64 0, .int .i64 0, .int .i64 0, .int .i64 0, .int .i64 0] := rfl
  have hcz : Zz.cut (icells zer6) 0 6 = some (icells zer6) := rfl
  by_cases hb : VT rows ∧ gens.length = rows.length ∧ okB 48 v
  · obtain ⟨ht, hgr, hv⟩ := hb
    have hgr1 : ((gens.length : Nat) : Int) = ((rows.length : Nat) : Int) := by omega
    rw [decide_eq_true ht] at c45
    rw [decide_eq_true hv] at c61
    refine WF.fnE rfl (fn_of Try.func57 cir57) (by show 3 ≤ 50; decide) ?_
    unfold ir57; dsimp only [k0, kI, mV, oO, oG]
    simp only [padTo, List.replicate, List.nil_append, List.append_nil]
    repeat' (first | (refine WO.yes rfl ?_) | (refine WO.opE (by intro; simp (disch := omega) only [go_sem, Zz.look, Nat.reduceAdd, hcv, hgr1]; rfl) (by simp only [pt8, pt1, pt2, pt3, pt4, pt5, pt6, pt7]; rfl) ?_) | (refine WO.opE (by intro; exact ev_lenS (by simp only [go_sem]; first | rfl | assumption)) (by simp only [pt8, pt0, pt3, pt5]; rfl) ?_) | (refine WO.specE rfl rfl (c45 _) (by simp only [pt8, pt4]; rfl) ?_) | (refine WO.specE rfl rfl (c61 _) (by simp only [pt8, pt0]; rfl) ?_) | (refine WC.seq ?_) | (refine WC.region ?_) | (refine WO.nil ?_) | (simp only [fl1]) | (refine WC.no rfl ?_) | (refine WC.skip ?_) | (refine WC.block ?_))
    refine WC.loopI (fun m s => ∃ T G i, s = ⟨T, G, []⟩ ∧ T.length = 50 ∧ gt T 1 = gx ∧ gt T 3 = .pref 0 0 0 ∧ gt T 5 = .pref 1 0 0 ∧ gt T 6 = .pref 2 0 0 ∧ gt T 28 = gx ∧ gt T 29 = .int .i64 (gens.length : Nat) ∧ gt T 30 = .int .i64 (i : Nat) ∧ m + i = gens.length ∧ Zz.look G 0 0 = some [l] ∧ Zz.look G 1 0 = some (icells v) ∧ Zz.look G 2 0 = some (icells zer6) ∧ ∀ t, t < i → okB 576 (rw_ gens t)) ?_ gens.length _ ⟨_, _, 0, rfl, rfl, rfl, rfl, rfl, rfl, rfl, by first | rfl | rw [hgr], rfl, by omega, rfl, rfl, rfl, fun t ht => by omega⟩
    rintro m _ ⟨T, G, i, rfl, hT, g1, g3, g5, g6, g28, g29, g30, hm, k0, k1, k2, hz⟩
    obtain ⟨f, rfl⟩ := ex50 hT
    clear hT
    replace g1 : f 1 = gx := g1
    replace g3 : f 3 = .pref 0 0 0 := g3
    replace g5 : f 5 = .pref 1 0 0 := g5
    replace g6 : f 6 = .pref 2 0 0 := g6
    replace g28 : f 28 = gx := g28
    replace g29 : f 29 = .int .i64 (gens.length : Nat) := g29
    replace g30 : f 30 = .int .i64 (i : Nat) := g30
    simp only [g1, g3, g5, g6, g28, g29, g30]
    have l0 := look_lt k0
    have l1 := look_lt k1
    have l2 := look_lt k2
    by_cases hi : i < gens.length
    · have h6 := hgx.six hi
      have hat := hgx.at hi
      have hcut := cut_row (t := tailr gens i) h6
      have hov := fun x0 x1 x2 x3 x4 x5 => icells_over6 h6 (x0 := x0) (x1 := x1) (x2 := x2) (x3 := x3) (x4 := x4) (x5 := x5)
      have hcr : (rw_ gens i).map (AV.int .i64) = icells (rw_ gens i) := rfl
      rw [hcr] at hat hcut
      have hml : (icells (rw_ gens i)).length = 6 := by rw [icells_len, h6]
      have hcut0 := icells_cut h6
      have c113 := fun m => s113 (m := m) h6
      have kk : ∀ q, q < 3 → Zz.look (G ++ [some ⟨0, icells (rw_ gens i)⟩]) q 0 = Zz.look G q 0 := fun q hq => look_left (by omega)
      by_cases hg : okB 576 (rw_ gens i)
      · rw [decide_eq_true hg] at c113
        repeat' (first | (refine WO.opE (by intro; simp (disch := omega) only [go_sem, hat, hcut, hcut0, lk0]; rfl) (by simp only [pt8, pt0, pt1, pt2, pt4, pt6, pt7]; rfl) ?_) | (refine WO.opN (by intro; simp (disch := omega) only [go_sem, Option.bind_eq_bind, app_s0, hov, hml, lk0]; rfl) ?_) | (refine WO.specE rfl rfl (c113 _) (by simp only [pt8, pt3]; rfl) ?_) | (refine WC.seq ?_) | (refine WC.region ?_) | (refine WO.nil ?_) | (simp only [fl1, fl10]) | (refine WC.no rfl ?_) | (refine WC.skip ?_) | (refine WC.block ?_) | (refine WC.em2 rfl (fun hp => ?_) (fun hp => ?_) <;> try (exfalso; first | omega | contradiction)))
        exact ⟨m - 1, by omega, _, _, i + 1, rfl, rfl, rfl, rfl, rfl, rfl, rfl, rfl, rfl, by omega, (kk 0 (by decide)).trans k0, (kk 1 (by decide)).trans k1, (kk 2 (by decide)).trans k2, fun t ht => by
          by_cases e : t = i
          · subst e; exact hg
          · exact hz t (by omega)⟩
      · rw [decide_eq_false hg] at c113
        have hno : ¬ tunOK rows gens v := fun h => hg (h.2.2.2 i hi)
        have e1 : tunP rows gens v = zer6 := if_neg fun h => hno h.1
        have e2 : errTu rows gens v = 1 := if_neg hno
        have k2' : Zz.look (G ++ [some ⟨0, icells (rw_ gens i)⟩]) 2 0 = some [.int .i64 0, .int .i64 0, .int .i64 0, .int .i64 0, .int .i64 0, .int .i64 0] := (kk 2 (by decide)).trans k2
        have hres : Zz.look ((G ++ [some ⟨0, icells (rw_ gens i)⟩] : Hp).set 2 (some ⟨0, icells zer6⟩)) 2 0 = some (icells zer6) := look_set (by simp; omega)
        rw [e1, e2]
        rw [hze] at hres hcz ⊢
        repeat' (first | (refine WO.opE (by intro; simp (disch := omega) only [go_sem, fillP, hat, hcut, hcut0, lk0]; rfl) (by simp only [pt8, pt0, pt1, pt2, pt4, pt5, pt7]; rfl) ?_) | (refine WO.opN (by intro; simp (disch := omega) only [go_sem, Option.bind_eq_bind, app_s0, Nat.reduceAdd, hov, hml, lk0, k2', setBlk]; rfl) ?_) | (refine WO.specE rfl rfl (c113 _) (by simp only [pt8, pt3]; rfl) ?_) | (refine WC.seq ?_) | (refine WC.region ?_) | (refine WO.nil ?_) | (simp only [fl1, fl2, fl5, fl8]) | (refine WC.yes rfl ?_) | (refine WC.skip ?_) | (refine WC.ret ?_) | (refine WC.block ?_) | (refine WC.em2 rfl (fun hp => ?_) (fun hp => ?_) <;> try (exfalso; first | omega | contradiction)))
        exact ⟨_, by simp only [evRes, gt6, gt7, loadCs, hres, hcz, if_true, Option.bind_some, Option.map_some]; rfl, rfl⟩
    · have hie : i = gens.length := by omega
      subst hie
      have hok : tunOK rows gens v := ⟨ht, hgr, hv, hz⟩
      repeat' (first | (refine WO.opE (by intro; simp (disch := omega) only [go_sem, fillP, Option.bind_eq_bind, ov_one0, k0, k1, hcv]; rfl) (by simp only [pt8, pt0, pt1, pt2, pt3, pt7]; rfl) ?_) | (refine WC.seq ?_) | (refine WC.region ?_) | (refine WO.nil ?_) | (simp only [fl1]) | (refine WC.exit ?_) | (refine WC.em2 rfl (fun hp => ?_) (fun hp => ?_) <;> try (exfalso; first | omega | contradiction)))
      refine WO.call rfl rfl ((f114 (E := T14) rfl (fn_of Try.func114 cir114) rfl hl ht.1.2 ht.2.1 hv6 hv hgx hgr hz).mono ?_)
      rintro y m' ⟨rfl, R, rfl⟩
      simp only [pt8, pt4]
      have h6 : (tuneF rows gens v).length = 6 := by simp [tuneF]
      have hov := fun x0 x1 x2 x3 x4 x5 => icells_over6 h6 (x0 := x0) (x1 := x1) (x2 := x2) (x3 := x3) (x4 := x4) (x5 := x5)
      have hml : (icells (tuneF rows gens v)).length = 6 := by rw [icells_len, h6]
      have hcut0 := icells_cut h6
      have c113 := fun m => s113 (m := m) h6
      have hGR : Zz.look (G ++ R) 2 0 = some (icells zer6) := (look_left l2).trans k2
      have lGR := look_lt hGR
      generalize (G ++ R : Hp) = G2 at *
      have k2' : Zz.look (G2 ++ [some ⟨0, icells (tuneF rows gens v)⟩]) 2 0 = some [.int .i64 0, .int .i64 0, .int .i64 0, .int .i64 0, .int .i64 0, .int .i64 0] := (look_left lGR).trans hGR
      by_cases hp : okB 576 (tuneF rows gens v)
      · rw [decide_eq_true hp] at c113
        have e1 : tunP rows gens v = tuneF rows gens v := if_pos ⟨hok, hp⟩
        have e2 : errTu rows gens v = 0 := by unfold errTu; rw [if_pos hok, if_pos hp]
        have hres : Zz.look ((G2 ++ [some ⟨0, icells (tuneF rows gens v)⟩] : Hp).set 2 (some ⟨0, icells (tuneF rows gens v)⟩)) 2 0 = some (icells (tuneF rows gens v)) := look_set (by simp; omega)
        have hcz := hcut0
        rw [e1, e2]
        repeat' (first | (refine WO.opE (by intro; simp (disch := omega) only [go_sem, hcut0, lk0]; rfl) (by simp only [pt8, pt1, pt2, pt5, pt7]; rfl) ?_) | (refine WO.opN (by intro; simp (disch := omega) only [go_sem, Option.bind_eq_bind, app_s0, hov, hml, lk0, k2', setBlk]; rfl) ?_) | (refine WO.specE rfl rfl (c113 _) (by simp only [pt8, pt6]; rfl) ?_) | (refine WC.seq ?_) | (refine WC.region ?_) | (refine WO.nil ?_) | (simp only [fl1]) | (refine WC.no rfl ?_) | (refine WC.skip ?_) | (refine WC.ret ?_))
        exact ⟨_, by simp only [evRes, gt6, gt7, loadCs, hres, hcz, if_true, Option.bind_some, Option.map_some]; rfl, rfl⟩
      · rw [decide_eq_false hp] at c113
        have e1 : tunP rows gens v = zer6 := if_neg fun h => hp h.2
        have e2 : errTu rows gens v = 3 := by unfold errTu; rw [if_pos hok, if_neg hp]
        have hres : Zz.look ((G2 ++ [some ⟨0, icells (tuneF rows gens v)⟩] : Hp).set 2 (some ⟨0, icells zer6⟩)) 2 0 = some (icells zer6) := look_set (by simp; omega)
        rw [e1, e2]
        rw [hze] at hres hcz ⊢
        repeat' (first | (refine WO.opE (by intro; simp (disch := omega) only [go_sem, fillP, hcut0, lk0]; rfl) (by simp only [pt8, pt0, pt2, pt5, pt7]; rfl) ?_) | (refine WO.opN (by intro; simp (disch := omega) only [go_sem, Option.bind_eq_bind, app_s0, Nat.reduceAdd, hov, hml, lk0, k2', setBlk]; rfl) ?_) | (refine WO.specE rfl rfl (c113 _) (by simp only [pt8, pt6]; rfl) ?_) | (refine WC.seq ?_) | (refine WC.region ?_) | (refine WO.nil ?_) | (simp only [fl1, fl2]) | (refine WC.yes rfl ?_) | (refine WC.ret ?_))
        exact ⟨_, by simp only [evRes, gt6, gt7, loadCs, hres, hcz, if_true, Option.bind_some, Option.map_some]; rfl, rfl⟩
  · have hno : ¬ tunOK rows gens v := fun h => hb ⟨h.1, h.2.1, h.2.2.1⟩
    have e1 : tunP rows gens v = zer6 := if_neg fun h => hno h.1
    have e2 : errTu rows gens v = 1 := if_neg hno
    rw [e1, e2]
    by_cases ht : VT rows
    · rw [decide_eq_true ht] at c45
      by_cases hgr : gens.length = rows.length
      · have hgr1 : ((gens.length : Nat) : Int) = ((rows.length : Nat) : Int) := by omega
        have hv : ¬ okB 48 v := fun h => hb ⟨ht, hgr, h⟩
        rw [decide_eq_false hv] at c61
        refine WF.fnE rfl (fn_of Try.func57 cir57) (by show 3 ≤ 50; decide) ?_
        unfold ir57; dsimp only [k0, kI, mV, oO, oG]
        simp only [padTo, List.replicate, List.nil_append, List.append_nil]
        repeat' (first | (refine WO.yes rfl ?_) | (refine WO.opE (by intro; simp (disch := omega) only [go_sem, Zz.look, fillP, Nat.reduceAdd, hcv, hgr1]; rfl) (by simp only [pt8, pt1, pt2, pt3, pt4, pt5, pt6, pt7]; rfl) ?_) | (refine WO.opN (by intro; simp (disch := omega) only [go_sem, Zz.look, Option.bind_eq_bind, Nat.reduceAdd, hgr1, setBlk, List.set_cons_zero, List.set_cons_succ]; rfl) ?_) | (refine WO.opE (by intro; exact ev_lenS (by simp only [go_sem]; first | rfl | assumption)) (by simp only [pt8, pt0, pt3]; rfl) ?_) | (refine WO.specE rfl rfl (c45 _) (by simp only [pt8, pt4]; rfl) ?_) | (refine WO.specE rfl rfl (c61 _) (by simp only [pt8, pt0]; rfl) ?_) | (refine WC.seq ?_) | (refine WC.region ?_) | (refine WO.nil ?_) | (simp only [fl1, fl2]) | (refine WC.yes rfl ?_) | (refine WC.ret ?_))
        exact ⟨_, rfl, rfl⟩
      · have hgr1 : ¬ ((gens.length : Nat) : Int) = ((rows.length : Nat) : Int) := by omega
        refine WF.fnE rfl (fn_of Try.func57 cir57) (by show 3 ≤ 50; decide) ?_
        unfold ir57; dsimp only [k0, kI, mV, oO, oG]
        simp only [padTo, List.replicate, List.nil_append, List.append_nil]
        repeat' (first | (refine WO.yes rfl ?_) | (refine WO.noE rfl (by simp only [pt8, pt0, pt1, pt7]; rfl) ?_) | (refine WO.opE (by intro; simp (disch := omega) only [go_sem, Zz.look, fillP, Nat.reduceAdd]; rfl) (by simp only [pt8, pt1, pt2, pt3, pt4, pt5, pt6, pt7]; rfl) ?_) | (refine WO.opN (by intro; simp (disch := omega) only [go_sem, Zz.look, Option.bind_eq_bind, Nat.reduceAdd, setBlk, List.set_cons_zero, List.set_cons_succ]; rfl) ?_) | (refine WO.opE (by intro; exact ev_lenS (by simp only [go_sem]; first | rfl | assumption)) (by simp only [pt8, pt0, pt3]; rfl) ?_) | (refine WO.specE rfl rfl (c45 _) (by simp only [pt8, pt4]; rfl) ?_) | (refine WC.seq ?_) | (refine WC.region ?_) | (refine WO.nil ?_) | (simp only [fl1, fl2]) | (refine WC.yes rfl ?_) | (refine WC.ret ?_) | (refine WO.em2 rfl (by intro hp; simp only [hp]; rfl) (by intro hp; simp only [hp, decide_false]; rfl) (fun hp => ?_) (fun hp => ?_) <;> try (exfalso; first | omega | contradiction)))
        exact ⟨_, rfl, rfl⟩
    · rw [decide_eq_false ht] at c45
      refine WF.fnE rfl (fn_of Try.func57 cir57) (by show 3 ≤ 50; decide) ?_
      unfold ir57; dsimp only [k0, kI, mV, oO, oG]
      simp only [padTo, List.replicate, List.nil_append, List.append_nil]
      repeat' (first | (refine WO.noE rfl (by simp only [pt8, pt0, pt1, pt2, pt3, pt4, pt7]; rfl) ?_) | (refine WO.opE (by intro; simp (disch := omega) only [go_sem, Zz.look, fillP, Nat.reduceAdd]; rfl) (by simp only [pt8, pt2, pt3, pt5, pt6, pt7]; rfl) ?_) | (refine WO.opN (by intro; simp (disch := omega) only [go_sem, Zz.look, Option.bind_eq_bind, Nat.reduceAdd, setBlk, List.set_cons_zero, List.set_cons_succ]; rfl) ?_) | (refine WO.specE rfl rfl (c45 _) (by simp only [pt8, pt4]; rfl) ?_) | (refine WC.seq ?_) | (refine WC.region ?_) | (refine WO.nil ?_) | (simp only [fl1, fl2]) | (refine WC.yes rfl ?_) | (refine WC.ret ?_))
      exact ⟨_, rfl, rfl⟩
theorem x57 {l l' gx gx' : AV} {rows gens : List (List Int)} {v : List Int} (hl : RwL l rows) (hmax : rows.length < 9223372036854775807) (hgx : RwL gx gens) (hgm : gens.length < 9223372036854775807) (hv6 : v.length = 6) {m : Mem} (h0 : Zz.byC m.heap l' = some l) (h1 : Zz.byVal m.heap gx' = some gx) :
    borrowX T14 57 [.agg [l'], gx', .agg (icells v)] m = some (.tuple [.agg (icells (tunP rows gens v)), .int .i64 (errTu rows gens v)], m) :=
  borrowX_of (byVals_cons (byMap h0) (byVals_cons h1 (byVals_cons (byI _ _) rfl))) ((f57 hl hmax hgx hgm hv6).mono fun y m' h => by rw [h]; exact newV_two (newI6 _ _))
noncomputable def T15 : Env := T14.put 57 (borrowX T14 57)
theorem T15_ok : EnvOk Try.prog T15 := Env.put_ok T14_ok (borrowX_ok T14_ok (callable Try.func57 (by kernel_rfl)))
end Go.Proofs.Ytnilimjkibimcaa

