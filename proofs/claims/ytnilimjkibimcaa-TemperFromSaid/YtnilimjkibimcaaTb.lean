import Derived.Test.YtnilimjkibimcaaTa
set_option linter.unusedSimpArgs false
set_option linter.unusedVariables false

namespace Go.Proofs.Ytnilimjkibimcaa
open Go.Zz
set_option maxRecDepth 100000
set_option maxHeartbeats 4000000
def VT (rows : List (List Int)) : Prop := (1 ≤ rows.length ∧ rows.length ≤ 3) ∧ (∀ i, i < rows.length → okB 400 (rw_ rows i)) ∧ VM rows ∧ rankF rows = rows.length
instance (rows : List (List Int)) : Decidable (VT rows) := by unfold VT; infer_instance
theorem RwL.byC {x : AV} {rows : List (List Int)} (h : RwL x rows) (H : Hp) : Zz.byC H x = some x := by
  have this := h.byVal H
  obtain ⟨_, ⟨rfl, _⟩ | ⟨f, rfl⟩⟩ := h <;> exact this
theorem byMap {H : Hp} {l l' : AV} (h : Zz.byC H l' = some l) : Zz.byVal H (.agg [l']) = some (.agg [l]) := by
  simp only [Zz.byVal, Zz.byL, h]
theorem pureM {l : AV} {rows : List (List Int)} (h : RwL l rows) : Zz.pureA (.agg [l]) = true := by
  show [l].all Zz.pureC = true
  simp [h.pureC]
theorem f109 {l : AV} {rows : List (List Int)} (hl : RwL l rows) (hmax : rows.length < 9223372036854775807) : WF T6 (.func 109 [] []) [.agg [l]] ⟨[], []⟩ fun y m' => y = .bool (decide (VT rows)) := by
  have hll := hl.len
  have hlc := hl.cells
  unfold AV.cells at hlc
  have c35 := fun m => x35 (m := m) (l' := l) hl hmax (hl.byVal _)
  by_cases h3 : 1 ≤ rows.length ∧ rows.length ≤ 3
  · have h31 := h3
    refine WF.fnE rfl (fn_of Try.func109 cir109) (by show 1 ≤ 58; decide) ?_
    unfold ir109; dsimp only [k0, kI, mV, oO, oG]
    simp only [padTo, List.replicate, List.nil_append, List.append_nil]
    repeat' (first | (refine WO.yes rfl ?_) | (refine WO.opE (by intro; simp (disch := omega) only [go_sem, Zz.look]; rfl) (by simp only [pt8, pt0, pt1, pt2, pt3, pt4, pt5, pt6, pt7]; rfl) ?_) | (refine WO.opE (by intro; exact ev_lenS (by simp only [go_sem]; first | rfl | assumption)) (by simp only [pt8, pt0, pt2, pt4]; rfl) ?_) | (refine WC.seq ?_) | (refine WC.region ?_) | (refine WO.nil ?_) | (simp only [fl1]) | (refine WC.skip ?_) | (refine WC.block ?_) | (refine WO.em2 rfl (by intro hp; simp only [hp, decide_true]; rfl) (by intro hp; simp only [hp, decide_false]; rfl) (fun hp => ?_) (fun hp => ?_) <;> try (exfalso; first | omega | contradiction)) | (refine WC.em2 rfl (fun hp => ?_) (fun hp => ?_) <;> try (exfalso; first | omega | contradiction)))
    refine WC.loopI (fun m s => ∃ T R i, s = ⟨T, R, []⟩ ∧ T.length = 58 ∧ gt T 1 = .pref 0 0 0 ∧ gt T 23 = l ∧ gt T 24 = .int .i64 (rows.length : Nat) ∧ gt T 25 = .int .i64 (i : Nat) ∧ m + i = rows.length ∧ Zz.look R 0 0 = some [l] ∧ ∀ t, t < i → okB 400 (rw_ rows t)) ?_ rows.length _ ⟨_, _, 0, rfl, rfl, rfl, rfl, rfl, rfl, by omega, rfl, fun t ht => by omega⟩
    rintro m _ ⟨T, R, i, rfl, hT, g1, g23, g24, g25, hm, k0, hz⟩
    obtain ⟨f, rfl⟩ := ex58 hT
    clear hT
    replace g1 : f 1 = .pref 0 0 0 := g1
    replace g23 : f 23 = l := g23
    replace g24 : f 24 = .int .i64 (rows.length : Nat) := g24
    replace g25 : f 25 = .int .i64 (i : Nat) := g25
    simp only [g1, g23, g24, g25]
    by_cases hi : i < rows.length
    · have h6 := hl.six hi
      have hat := hl.at hi
      have hcut := cut_row (t := tailr rows i) h6
      have hov := fun x0 x1 x2 x3 x4 x5 => icells_over6 h6 (x0 := x0) (x1 := x1) (x2 := x2) (x3 := x3) (x4 := x4) (x5 := x5)
      have hcr : (rw_ rows i).map (AV.int .i64) = icells (rw_ rows i) := rfl
      rw [hcr] at hat hcut
      have hml : (icells (rw_ rows i)).length = 6 := by rw [icells_len, h6]
      have hcut0 := icells_cut h6
      have kG : Zz.look (R ++ [some ⟨0, icells (rw_ rows i)⟩]) 0 0 = some [l] := (look_left (look_lt k0)).trans k0
      repeat' (first | (refine WO.opE (by intro; simp (disch := omega) only [go_sem, hat, hcut, hcut0, lk0]; rfl) (by simp only [pt8, pt2, pt3, pt4, pt5, pt6]; rfl) ?_) | (refine WO.opN (by intro; simp (disch := omega) only [go_sem, Option.bind_eq_bind, app_s0, hov, hml, lk0]; rfl) ?_) | (refine WC.seq ?_) | (refine WC.region ?_) | (refine WO.nil ?_) | (simp only [fl1]) | (refine WC.skip ?_) | (refine WC.block ?_) | (refine WC.em2 rfl (fun hp => ?_) (fun hp => ?_) <;> try (exfalso; first | omega | contradiction)))
      refine WC.loopI (fun m2 s => ∃ T j, s = ⟨T, R ++ [some ⟨0, icells (rw_ rows i)⟩], []⟩ ∧ T.length = 58 ∧ gt T 1 = .pref 0 0 0 ∧ gt T 23 = l ∧ gt T 24 = .int .i64 (rows.length : Nat) ∧ gt T 25 = .int .i64 (i : Nat) ∧ gt T 29 = .agg (icells (rw_ rows i)) ∧ gt T 30 = .int .i64 (j : Nat) ∧ m2 + j = 6 ∧ ∀ t, t < j → -400 ≤ (rw_ rows i).getD t 0 ∧ (rw_ rows i).getD t 0 ≤ 400) ?_ 6 _ ⟨_, 0, rfl, rfl, rfl, rfl, rfl, rfl, rfl, rfl, by omega, fun t ht => by omega⟩
      clear g1 g23 g24 g25 f
      rintro m2 _ ⟨T, j, rfl, hT, g1, g23, g24, g25, g29, g30, hm2, hz2⟩
      obtain ⟨f, rfl⟩ := ex58 hT
      clear hT
      replace g1 : f 1 = .pref 0 0 0 := g1
      replace g23 : f 23 = l := g23
      replace g24 : f 24 = .int .i64 (rows.length : Nat) := g24
      replace g25 : f 25 = .int .i64 (i : Nat) := g25
      replace g29 : f 29 = .agg (icells (rw_ rows i)) := g29
      replace g30 : f 30 = .int .i64 (j : Nat) := g30
      simp only [g1, g23, g24, g25, g29, g30]
      by_cases hj : j < 6
      · have hia := icells_at (r := rw_ rows i) (j := j) (by omega)
        generalize hx : (rw_ rows i).getD j 0 = x at *
        by_cases hxb : -400 ≤ x ∧ x ≤ 400
        · have hxb1 := hxb
          repeat' (first | (refine WO.yes rfl ?_) | (refine WO.opE (by intro; simp (disch := omega) only [go_sem, Int.reduceNeg, Int.reduceAdd, hia, Nat.mul_one]; rfl) (by simp only [pt8, pt0, pt1, pt2, pt3, pt4, pt5, pt6, pt7]; rfl) ?_) | (refine WC.seq ?_) | (refine WC.region ?_) | (refine WO.nil ?_) | (simp only [fl1, fl10]) | (refine WC.skip ?_) | (refine WC.block ?_) | (refine WO.em2 rfl (by intro hp; simp only [hp, decide_true]; rfl) (by intro hp; simp only [hp, decide_false]; rfl) (fun hp => ?_) (fun hp => ?_) <;> try (exfalso; first | omega | contradiction)) | (refine WC.em2 rfl (fun hp => ?_) (fun hp => ?_) <;> try (exfalso; first | omega | contradiction)))
          exact ⟨m2 - 1, by omega, _, j + 1, rfl, rfl, rfl, rfl, rfl, rfl, rfl, rfl, by omega, fun t ht => by
            by_cases e : t = j
            · subst e; rw [hx]; exact hxb
            · exact hz2 t (by omega)⟩
        · have hxb1 := hxb
          have hd : decide (VT rows) = false := decide_eq_false fun h => hxb (by have := h.2.1 i hi j hj; rw [hx] at this; exact this)
          repeat' (first | (refine WO.yes rfl ?_) | (refine WO.noE rfl (by simp only [pt8, pt4, pt5]; rfl) ?_) | (refine WO.opE (by intro; simp (disch := omega) only [go_sem, Int.reduceNeg, Int.reduceAdd, hia, Nat.mul_one]; rfl) (by simp only [pt8, pt0, pt1, pt2, pt3, pt4, pt5, pt6, pt7]; rfl) ?_) | (refine WC.seq ?_) | (refine WC.region ?_) | (refine WO.nil ?_) | (simp only [fl1, fl2, fl5, fl8]) | (refine WC.yes rfl ?_) | (refine WC.skip ?_) | (refine WC.ret ?_) | (refine WC.block ?_) | (refine WO.em2 rfl (by intro hp; simp only [hp, decide_true]; rfl) (by intro hp; simp only [hp, decide_false]; rfl) (fun hp => ?_) (fun hp => ?_) <;> try (exfalso; first | omega | contradiction)) | (refine WC.em2 rfl (fun hp => ?_) (fun hp => ?_) <;> try (exfalso; first | omega | contradiction)))
          all_goals exact ⟨_, rfl, by rw [hd]; rfl⟩
      · have hje : j = 6 := by omega
        subst hje
        repeat' (first | (refine WO.opE (by intro; simp (disch := omega) only [go_sem]; rfl) (by simp only [pt8, pt0, pt1, pt7]; rfl) ?_) | (refine WC.seq ?_) | (refine WC.region ?_) | (refine WO.nil ?_) | (simp only [fl10]) | (refine WC.no rfl ?_) | (refine WC.exit ?_))
        exact ⟨m - 1, by omega, _, _, i + 1, rfl, rfl, rfl, rfl, rfl, rfl, by omega, kG, fun t ht => by
          by_cases e : t = i
          · subst e; exact hz2
          · exact hz t (by omega)⟩
    · have hie : i = rows.length := by omega
      subst hie
      by_cases hv : VM rows
      · rw [if_pos hv, if_pos hv] at c35
        have hvt : VT rows ↔ rankF rows = rows.length := ⟨fun h => h.2.2.2, fun h => ⟨h3, hz, hv, h⟩⟩
        repeat' (first | (refine WO.yes rfl ?_) | (refine WO.opE (by intro; simp (disch := omega) only [go_sem, k0]; rfl) (by simp only [pt8, pt0, pt1, pt2, pt3, pt4, pt5, pt6, pt7]; rfl) ?_) | (refine WO.opE (by intro; exact ev_lenS (by simp only [go_sem]; first | rfl | assumption)) (by simp only [pt8, pt7]; rfl) ?_) | (refine WO.specE rfl rfl (c35 _) (by simp only [pt8, pt5]; rfl) ?_) | (refine WC.seq ?_) | (refine WC.region ?_) | (refine WO.nil ?_) | (simp only [fl1]) | (refine WC.exit ?_) | (refine WC.ret ?_) | (refine WC.em2 rfl (fun hp => ?_) (fun hp => ?_) <;> try (exfalso; first | omega | contradiction)))
        refine ⟨_, rfl, ?_⟩
        simp only [oneRes, gt2, AV.bool.injEq]
        rw [decide_eq_decide, hvt]
        omega
      · rw [if_neg hv, if_neg hv] at c35
        have hd : decide (VT rows) = false := decide_eq_false fun h => hv h.2.2.1
        repeat' (first | (refine WO.noE rfl (by simp only [pt8, pt0, pt3, pt4, pt5, pt6, pt7]; rfl) ?_) | (refine WO.opE (by intro; simp (disch := omega) only [go_sem, k0]; rfl) (by simp only [pt8, pt0, pt1, pt2, pt3, pt4, pt6, pt7]; rfl) ?_) | (refine WO.specE rfl rfl (c35 _) (by simp only [pt8, pt5]; rfl) ?_) | (refine WC.seq ?_) | (refine WC.region ?_) | (refine WO.nil ?_) | (simp only [fl1]) | (refine WC.exit ?_) | (refine WC.ret ?_) | (refine WC.em2 rfl (fun hp => ?_) (fun hp => ?_) <;> try (exfalso; first | omega | contradiction)))
        exact ⟨_, rfl, by rw [hd]; rfl⟩
  · have h31 := h3
    have hd : decide (VT rows) = false := decide_eq_false fun h => h3 h.1
    refine WF.fnE rfl (fn_of Try.func109 cir109) (by show 1 ≤ 58; decide) ?_
    unfold ir109; dsimp only [k0, kI, mV, oO, oG]
    simp only [padTo, List.replicate, List.nil_append, List.append_nil]
    repeat' (first | (refine WO.yes rfl ?_) | (refine WO.noE rfl (by simp only [pt8, pt0, pt1, pt2, pt3, pt7]; rfl) ?_) | (refine WO.opE (by intro; simp (disch := omega) only [go_sem, Zz.look]; rfl) (by simp only [pt8, pt0, pt1, pt2, pt3, pt4, pt5, pt6, pt7]; rfl) ?_) | (refine WO.opE (by intro; exact ev_lenS (by simp only [go_sem]; first | rfl | assumption)) (by simp only [pt8, pt2, pt4]; rfl) ?_) | (refine WC.seq ?_) | (refine WC.region ?_) | (refine WO.nil ?_) | (simp only [fl1, fl2]) | (refine WC.yes rfl ?_) | (refine WC.ret ?_) | (refine WO.em2 rfl (by intro hp; simp only [hp, decide_true]; rfl) (by intro hp; simp only [hp, decide_false]; rfl) (fun hp => ?_) (fun hp => ?_) <;> try (exfalso; first | omega | contradiction)) | (refine WC.em2 rfl (fun hp => ?_) (fun hp => ?_) <;> try (exfalso; first | omega | contradiction)))
    all_goals exact ⟨_, rfl, by rw [hd]; rfl⟩
theorem s109 {l : AV} {rows : List (List Int)} (hl : RwL l rows) (hmax : rows.length < 9223372036854775807) {m : Mem} : borrowE T6 109 [.agg [l]] m = some (.bool (decide (VT rows)), m) :=
  borrowE_of (pures_cons (pureM hl) rfl) ((f109 hl hmax).mono fun y m' h => by rw [h]; rfl)
noncomputable def T7 : Env := T6.put 109 (borrowE T6 109)
theorem T7_ok : EnvOk Try.prog T7 := Env.put_ok T6_ok (borrowE_ok T6_ok (callable Try.func109 (by kernel_rfl)))
theorem f45 {l : AV} {rows : List (List Int)} (hl : RwL l rows) (hmax : rows.length < 9223372036854775807) : WF T7 (.func 45 [] []) [.agg [l]] ⟨[], []⟩ fun y m' => y = .bool (decide (VT rows)) := by
  have hlc := hl.cells
  unfold AV.cells at hlc
  have c109 := fun m => s109 (m := m) hl hmax
  refine WF.fnE rfl (fn_of Try.func45 cir45) (by show 1 ≤ 6; decide) ?_
  unfold ir45; dsimp only [k0, kI, mV, oO, oG]
  simp only [padTo, List.replicate, List.nil_append, List.append_nil]
  repeat' (first | (refine WO.opE (by intro; simp (disch := omega) only [go_sem, Zz.look, Zz.over, Zz.cut, fillP, Option.bind_eq_bind, Nat.reduceLeDiff]; rfl) (by simp only [pt1, pt2, pt3, pt4]; rfl) ?_) | (refine WO.specE rfl rfl (c109 _) (by simp only [pt5]; rfl) ?_) | (refine WC.seq ?_) | (refine WC.region ?_) | (refine WO.nil ?_) | (simp only [fl1]) | (refine WC.ret ?_))
  exact ⟨_, rfl, rfl⟩
theorem x45 {l l' : AV} {rows : List (List Int)} (hl : RwL l rows) (hmax : rows.length < 9223372036854775807) {m : Mem} (h0 : Zz.byC m.heap l' = some l) : borrowX T7 45 [.agg [l']] m = some (.bool (decide (VT rows)), m) :=
  borrowX_of (byVals_cons (byMap h0) rfl) ((f45 hl hmax).mono fun y m' h => by rw [h]; rfl)
noncomputable def T8 : Env := T7.put 45 (borrowX T7 45)
theorem T8_ok : EnvOk Try.prog T8 := Env.put_ok T7_ok (borrowX_ok T7_ok (callable Try.func45 (by kernel_rfl)))
end Go.Proofs.Ytnilimjkibimcaa

