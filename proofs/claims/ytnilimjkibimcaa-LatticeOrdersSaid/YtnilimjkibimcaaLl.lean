import Derived.Test.YtnilimjkibimcaaLB
import Derived.Test.YtnilimjkibimcaaLC
import Derived.Test.YtnilimjkibimcaaIrX
set_option linter.unusedSimpArgs false
set_option linter.unusedVariables false

namespace Go.Proofs.Ytnilimjkibimcaa
open Go.Zz
set_option maxRecDepth 100000
set_option maxHeartbeats 8000000
theorem f79 {r : List Int} (h6 : r.length = 6) : WF N13 (.func 79 [] []) [.agg (icells r)] ⟨[], []⟩ fun y m' => y = .bool (decide (okB 1000000000 r)) := by
  have hml : (icells r).length = 6 := by rw [icells_len, h6]
  have hcut := icells_cut h6
  refine WF.fnE rfl (fn_of Try.func79 cir79) (by show 1 ≤ 18; decide) ?_
  unfold ir79; dsimp only [k0, kI, mV, oO, oG]
  simp only [padTo, List.replicate, List.nil_append, List.append_nil]
  repeat' (first | (refine WO.opE (by intro; simp (disch := omega) only [go_sem]; rfl) (by simp only [pt1, pt2, pt3]; rfl) ?_) | (refine WC.seq ?_) | (refine WC.region ?_) | (refine WO.nil ?_) | (simp only [fl1]) | (refine WC.block ?_))
  refine WC.loopI (fun m s => ∃ T j, s = ⟨T, [some ⟨0, icells r⟩], []⟩ ∧ T.length = 18 ∧ gt T 1 = .pref 0 0 0 ∧ gt T 3 = .int .i64 (j : Nat) ∧ m + j = 6 ∧ ∀ t, t < j → -1000000000 ≤ r.getD t 0 ∧ r.getD t 0 ≤ 1000000000) ?_ 6 _ ⟨_, 0, rfl, rfl, rfl, rfl, by omega, fun t ht => by omega⟩
  rintro m _ ⟨T, j, rfl, hT, g1, g3, hm, hz⟩
  obtain ⟨f, rfl⟩ := ex18 hT
  clear hT
  replace g1 : f 1 = .pref 0 0 0 := g1
  replace g3 : f 3 = .int .i64 (j : Nat) := g3
  simp only [g1, g3]
  by_cases hj : j < 6
  · have hia := icells_at (r := r) (j := j) (by omega)
    generalize hx : r.getD j 0 = x at *
    by_cases hxb : -1000000000 ≤ x ∧ x ≤ 1000000000
    · have hxb1 := hxb
      repeat' (first | (refine WO.yes rfl ?_) | (refine WO.opE (by intro; simp (disch := omega) only [go_sem, Zz.look, Int.reduceNeg, Int.reduceAdd, hia, Nat.mul_one]; rfl) (by simp only [pt8, pt0, pt1, pt2, pt3, pt4, pt5, pt6, pt7]; rfl) ?_) | (refine WC.seq ?_) | (refine WC.region ?_) | (refine WO.nil ?_) | (simp only [fl1, fl10]) | (refine WC.skip ?_) | (refine WC.block ?_) | (refine WO.em2 rfl (by intro hp; simp only [hp, decide_true]; rfl) (by intro hp; simp only [hp, decide_false]; rfl) (fun hp => ?_) (fun hp => ?_) <;> try (exfalso; first | omega | contradiction)) | (refine WC.em2 rfl (fun hp => ?_) (fun hp => ?_) <;> try (exfalso; first | omega | contradiction)))
      exact ⟨m - 1, by omega, _, j + 1, rfl, rfl, rfl, rfl, by omega, fun t ht => by
        by_cases e : t = j
        · subst e; rw [hx]; exact hxb
        · exact hz t (by omega)⟩
    · have hxb1 := hxb
      have hd : decide (okB 1000000000 r) = false := decide_eq_false fun h => hxb (by have := h j hj; rw [hx] at this; exact this)
      repeat' (first | (refine WO.yes rfl ?_) | (refine WO.noE rfl (by simp only [pt8, pt0, pt5, pt6, pt7]; rfl) ?_) | (refine WO.opE (by intro; simp (disch := omega) only [go_sem, Zz.look, Int.reduceNeg, Int.reduceAdd, hia, Nat.mul_one]; rfl) (by simp only [pt8, pt0, pt1, pt2, pt3, pt4, pt5, pt6, pt7]; rfl) ?_) | (refine WC.seq ?_) | (refine WC.region ?_) | (refine WO.nil ?_) | (simp only [fl1, fl2, fl5, fl8]) | (refine WC.yes rfl ?_) | (refine WC.skip ?_) | (refine WC.ret ?_) | (refine WC.block ?_) | (refine WO.em2 rfl (by intro hp; simp only [hp, decide_true]; rfl) (by intro hp; simp only [hp, decide_false]; rfl) (fun hp => ?_) (fun hp => ?_) <;> try (exfalso; first | omega | contradiction)) | (refine WC.em2 rfl (fun hp => ?_) (fun hp => ?_) <;> try (exfalso; first | omega | contradiction)))
      all_goals exact ⟨_, rfl, by rw [hd]; rfl⟩
  · have hje : j = 6 := by omega
    subst hje
    have hd : decide (okB 1000000000 r) = true := decide_eq_true hz
    repeat' (first | (refine WO.opE (by intro; simp (disch := omega) only [go_sem]; rfl) (by simp only [pt2, pt4, pt5]; rfl) ?_) | (refine WC.seq ?_) | (refine WC.region ?_) | (refine WO.nil ?_) | (simp only [fl1]) | (refine WC.no rfl ?_) | (refine WC.exit ?_) | (refine WC.ret ?_))
    exact ⟨_, rfl, by rw [hd]; rfl⟩
theorem s79 {r : List Int} (h6 : r.length = 6) {m : Mem} : borrowE N13 79 [.agg (icells r)] m = some (.bool (decide (okB 1000000000 r)), m) :=
  borrowE_of (pures_cons (pureI r) rfl) ((f79 h6).mono fun y m' h => by rw [h]; rfl)
noncomputable def N14 : Env := N13.put 79 (borrowE N13 79)
theorem N14_ok : EnvOk Try.prog N14 := Env.put_ok N13_ok (borrowE_ok N13_ok (callable Try.func79 (by kernel_rfl)))
theorem sx_bd {ys : List Int} (h : ∀ y ∈ ys, -32768 ≤ y ∧ y ≤ 32767) (i : Nat) : -32768 ≤ ys.getD i 0 ∧ ys.getD i 0 ≤ 32767 := by
  by_cases hi : i < ys.length
  · rw [List.getD_eq_getElem?_getD, List.getElem?_eq_getElem hi]
    exact h _ (List.getElem_mem hi)
  · rw [List.getD_eq_getElem?_getD, List.getElem?_eq_none (by omega)]
    decide
theorem f78 {x y : AV} {v : List Int} {rows : List (List Int)} {ys : List Int} (hx : RwL x rows) (hy : SxS y ys) (h6 : v.length = 6) (hv : okB 31000000000 v) (hr : ∀ i, i < rows.length → okB 6000000000 (rw_ rows i)) (hn : rows.length ≤ 1000) (hyn : ys.length < 9223372036854775808) (hyb : ∀ y ∈ ys, -32768 ≤ y ∧ y ≤ 32767) :
    WF N14 (.func 78 [] []) [.agg (icells v), x, y] ⟨[], []⟩ fun u m' => u = .tuple [.agg (icells (plusV v rows (byM ys) rows.length)), .bool (decide (okB 1000000000 (plusV v rows (byM ys) rows.length)))] := by
  have hxl := hx.len
  have hyl := hy.len
  have hcv := icells_cut h6
  have hml : (icells v).length = 6 := by rw [icells_len, h6]
  refine WF.fnE rfl (fn_of Try.func78 cir78) (by show 3 ≤ 47; decide) ?_
  unfold ir78; dsimp only [k0, kI, mV, oO, oG]
  simp only [padTo, List.replicate, List.nil_append, List.append_nil]
  repeat' (first | (refine WO.opE (by intro; simp (disch := omega) only [go_sem]; rfl) (by simp only [pt8, pt3, pt4, pt6, pt7]; rfl) ?_) | (refine WO.opE (by intro; exact ev_lenS (by simp only [go_sem]; first | rfl | assumption)) (by simp only [pt8, pt5]; rfl) ?_) | (refine WC.seq ?_) | (refine WC.region ?_) | (refine WO.nil ?_) | (simp only [fl1]) | (refine WC.block ?_))
  refine WC.loopI (fun m s => ∃ T R i, s = ⟨T, some ⟨0, icells (plusV v rows (byM ys) i)⟩ :: some ⟨0, icells zer6⟩ :: R, []⟩ ∧ T.length = 47 ∧ gt T 2 = y ∧ gt T 3 = .pref 0 0 0 ∧ gt T 6 = .pref 1 0 0 ∧ gt T 7 = .bool false ∧ gt T 12 = x ∧ gt T 13 = .int .i64 (rows.length : Nat) ∧ gt T 14 = .int .i64 (i : Nat) ∧ m + i = rows.length) ?_ rows.length _ ⟨_, [], 0, rfl, rfl, rfl, rfl, rfl, rfl, rfl, rfl, rfl, by omega⟩
  rintro m _ ⟨T, R, i, rfl, hT, g2, g3, g6, g7, g12, g13, g14, hm⟩
  obtain ⟨f, rfl⟩ := ex47 hT
  clear hT
  replace g2 : f 2 = y := g2
  replace g3 : f 3 = .pref 0 0 0 := g3
  replace g6 : f 6 = .pref 1 0 0 := g6
  replace g7 : f 7 = .bool false := g7
  replace g12 : f 12 = x := g12
  replace g13 : f 13 = .int .i64 (rows.length : Nat) := g13
  replace g14 : f 14 = .int .i64 (i : Nat) := g14
  simp only [g2, g3, g6, g7, g12, g13, g14]
  have q0 : ∀ (c d : List AV) (S : Hp), Zz.look (some ⟨0, c⟩ :: some ⟨0, d⟩ :: S) 0 0 = some c := fun _ _ _ => rfl
  have q1 : ∀ (c d : List AV) (S : Hp), Zz.look (some ⟨0, c⟩ :: some ⟨0, d⟩ :: S) 1 0 = some d := fun _ _ _ => rfl
  have w0 : ∀ (c d e : List AV) (S : Hp), setBlk (some ⟨0, c⟩ :: some ⟨0, d⟩ :: S) 0 0 e = some ⟨0, e⟩ :: some ⟨0, d⟩ :: S := fun _ _ _ _ => rfl
  have w1 : ∀ (c d e : List AV) (S : Hp), setBlk (some ⟨0, c⟩ :: some ⟨0, d⟩ :: S) 1 0 e = some ⟨0, c⟩ :: some ⟨0, e⟩ :: S := fun _ _ _ _ => rfl
  have hu6 := plusV_len (rows := rows) (c := byM ys) h6 i
  have hcu := icells_cut hu6
  have hul : (icells (plusV v rows (byM ys) i)).length = 6 := by rw [icells_len, hu6]
  by_cases hi : i < rows.length
  · have k6 := hx.six hi
    have hat := hx.at hi
    have hcut := cut_row (t := tailr rows i) k6
    have hcr : (rw_ rows i).map (AV.int .i64) = icells (rw_ rows i) := rfl
    rw [hcr] at hat hcut
    have hov := fun x0 x1 x2 x3 x4 x5 => icells_over6 k6 (x0 := x0) (x1 := x1) (x2 := x2) (x3 := x3) (x4 := x4) (x5 := x5)
    have hgl : (icells (rw_ rows i)).length = 6 := by rw [icells_len, k6]
    have kl : ∀ (c e d : List AV), Zz.look (some ⟨0, c⟩ :: some ⟨0, e⟩ :: (R ++ [some ⟨0, d⟩])) (R.length + 1 + 1) 0 = some d := fun c e d => by
      simp [Zz.look]
    have ks : ∀ (c e d f : List AV), setBlk (some ⟨0, c⟩ :: some ⟨0, e⟩ :: (R ++ [some ⟨0, d⟩])) (R.length + 1 + 1) 0 f = some ⟨0, c⟩ :: some ⟨0, e⟩ :: (R ++ [some ⟨0, f⟩]) := fun c e d f => by simp [setBlk]
    have hs : ∀ t, t < 6 → (plusV v rows (byM ys) (i + 1)).getD t 0 = (plusV v rows (byM ys) i).getD t 0 + byM ys i * (rw_ rows i).getD t 0 := fun t ht => by
      show (subV (plusV v rows (byM ys) i) (-(byM ys i)) (rw_ rows i)).getD t 0 = _
      rw [sub_at ht, Int.neg_mul]
      omega
    by_cases hyi : i < ys.length
    · have hyat := hy.at hyi
      have hc : byM ys i = (ys.getD i 0).tmod 1001 := if_pos hyi
      have hcb := byM_bd ys i
      have hyw := sx_bd hyb i
      repeat' (first | (refine WO.opE (by intro; simp (disch := omega) only [go_sem, hat, hcut, hyat, List.length_cons, List.cons_append]; rfl) (by simp only [pt8, pt0, pt1, pt2, pt3, pt4, pt5, pt6, pt7]; rfl) ?_) | (refine WO.opN (by intro; simp (disch := omega) only [go_sem, Option.bind_eq_bind, app_s0, hov, hgl, kl]; rfl) ?_) | (refine WO.opE (by intro; exact ev_lenS (by simp only [go_sem]; first | rfl | assumption)) (by simp only [pt8, pt5]; rfl) ?_) | (refine WC.seq ?_) | (refine WC.region ?_) | (refine WO.nil ?_) | (simp only [fl1]) | (refine WC.skip ?_) | (refine WC.block ?_) | (refine WC.em2 rfl (fun hp => ?_) (fun hp => ?_) <;> try (exfalso; first | omega | contradiction)))
      rw [← hc]
      generalize hcc : byM ys i = c at *
      refine WC.loopI (fun m2 s => ∃ T w j, s = ⟨T, some ⟨0, icells w⟩ :: some ⟨0, icells zer6⟩ :: (R ++ [some ⟨0, icells (rw_ rows i)⟩]), []⟩ ∧ T.length = 47 ∧ gt T 2 = y ∧ gt T 3 = .pref 0 0 0 ∧ gt T 6 = .pref 1 0 0 ∧ gt T 7 = .bool false ∧ gt T 12 = x ∧ gt T 13 = .int .i64 (rows.length : Nat) ∧ gt T 14 = .int .i64 (i : Nat) ∧ gt T 8 = .int .i64 (i : Nat) ∧ gt T 9 = .pref (R.length + 1 + 1) 0 0 ∧ gt T 10 = .int .i64 c ∧ gt T 29 = .int .i64 (j : Nat) ∧ m2 + j = 6 ∧ w.length = 6 ∧ (∀ t, t < j → w.getD t 0 = (plusV v rows (byM ys) (i + 1)).getD t 0) ∧ ∀ t, j ≤ t → w.getD t 0 = (plusV v rows (byM ys) i).getD t 0) ?_ 6 _ ⟨_, plusV v rows (byM ys) i, 0, rfl, rfl, rfl, rfl, rfl, rfl, rfl, rfl, rfl, rfl, rfl, rfl, rfl, by omega, hu6, fun t ht => by omega, fun t _ => rfl⟩
      clear g2 g3 g6 g7 g12 g13 g14 f
      rintro m2 _ ⟨T, w, j, rfl, hT, g2, g3, g6, g7, g12, g13, g14, g8, g9, g10, g29, hm2, hw6, hw1, hw2⟩
      obtain ⟨f, rfl⟩ := ex47 hT
      clear hT
      replace g2 : f 2 = y := g2
      replace g3 : f 3 = .pref 0 0 0 := g3
      replace g6 : f 6 = .pref 1 0 0 := g6
      replace g7 : f 7 = .bool false := g7
      replace g12 : f 12 = x := g12
      replace g13 : f 13 = .int .i64 (rows.length : Nat) := g13
      replace g14 : f 14 = .int .i64 (i : Nat) := g14
      replace g8 : f 8 = .int .i64 (i : Nat) := g8
      replace g9 : f 9 = .pref (R.length + 1 + 1) 0 0 := g9
      replace g10 : f 10 = .int .i64 c := g10
      replace g29 : f 29 = .int .i64 (j : Nat) := g29
      simp only [g2, g3, g6, g7, g12, g13, g14, g8, g9, g10, g29]
      have hwl : (icells w).length = 6 := by rw [icells_len, hw6]
      by_cases hj : j < 6
      · have hia := icells_at (r := w) (j := j) (by omega)
        rw [hw2 j (Nat.le_refl _)] at hia
        have hib := icells_at (r := rw_ rows i) (j := j) (by omega)
        have hsj := hs j hj
        have hovw := icells_over (r := w) (j := j) (by omega) ((plusV v rows (byM ys) (i + 1)).getD j 0)
        have b1 := plusV_bd hv (fun t _ => byM_bd ys t) hr i (by omega) j hj
        have b2 := plusV_bd hv (fun t _ => byM_bd ys t) hr (i + 1) (by omega) j hj
        have b3 := mul_b2 hcb (hr i hi j hj)
        generalize hP : (plusV v rows (byM ys) (i + 1)).getD j 0 = P2 at *
        generalize (plusV v rows (byM ys) i).getD j 0 = P1 at *
        generalize (rw_ rows i).getD j 0 = rj at *
        repeat' (first | (refine WO.opE (by intro; simp (disch := omega) only [go_sem, q0, kl, hia, hib, ← hsj, Nat.mul_one, Nat.zero_add]; rfl) (by simp only [pt8, pt0, pt1, pt2, pt3, pt4, pt5, pt6, pt7]; rfl) ?_) | (refine WO.opN (by intro; simp (disch := omega) only [go_sem, Option.bind_eq_bind, q0, hovw, Nat.zero_add, List.length_cons]; rfl) ?_) | (refine WC.seq ?_) | (refine WC.region ?_) | (refine WO.nil ?_) | (simp only [fl1, fl10]) | (refine WC.calm rfl ?_) | (refine WC.skip ?_) | (refine WC.block ?_) | (refine WC.em2 rfl (fun hp => ?_) (fun hp => ?_) <;> try (exfalso; first | omega | contradiction)))
        exact ⟨m2 - 1, by omega, _, w.set j P2, j + 1, rfl, rfl, rfl, rfl, rfl, rfl, rfl, rfl, rfl, rfl, rfl, rfl, rfl, by omega, by simpa using hw6, fun t ht => by
          by_cases e : t = j
          · subst e; rw [getD_set_self (by omega)]; exact hP.symm
          · rw [getD_set_ne (by omega)]; exact hw1 t (by omega), fun t ht => by rw [getD_set_ne (by omega)]; exact hw2 t (by omega)⟩
      · have hje : j = 6 := by omega
        subst hje
        have hwe : w = plusV v rows (byM ys) (i + 1) := getD_ext (by rw [hw6, plusV_len h6]) fun t ht => hw1 t (by omega)
        subst hwe
        repeat' (first | (refine WO.opE (by intro; simp (disch := omega) only [go_sem]; rfl) (by simp only [pt8, pt3, pt6]; rfl) ?_) | (refine WC.seq ?_) | (refine WC.region ?_) | (refine WO.nil ?_) | (simp only [fl10]) | (refine WC.no rfl ?_) | (refine WC.exit ?_))
        exact ⟨m - 1, by omega, _, _, i + 1, rfl, rfl, rfl, rfl, rfl, rfl, rfl, rfl, rfl, by omega⟩
    · have hc0 : byM ys i = 0 := if_neg hyi
      have hpe : plusV v rows (byM ys) (i + 1) = plusV v rows (byM ys) i := by
        show subV (plusV v rows (byM ys) i) (-(byM ys i)) (rw_ rows i) = _
        rw [hc0, Int.neg_zero]
        exact sub_zero6 hu6
      clear hs
      repeat' (first | (refine WO.opE (by intro; simp (disch := omega) only [go_sem, hat, hcut, List.length_cons, List.cons_append]; rfl) (by simp only [pt8, pt0, pt1, pt2, pt3, pt4, pt6, pt7]; rfl) ?_) | (refine WO.opN (by intro; simp (disch := omega) only [go_sem, Option.bind_eq_bind, app_s0, hov, hgl, kl]; rfl) ?_) | (refine WO.opE (by intro; exact ev_lenS (by simp only [go_sem]; first | rfl | assumption)) (by simp only [pt8, pt5]; rfl) ?_) | (refine WC.seq ?_) | (refine WC.region ?_) | (refine WO.nil ?_) | (simp only [fl1, fl10]) | (refine WC.skip ?_) | (refine WC.block ?_) | (refine WC.em2 rfl (fun hp => ?_) (fun hp => ?_) <;> try (exfalso; first | omega | contradiction)))
      exact ⟨m - 1, by omega, _, _, i + 1, by rw [hpe], rfl, rfl, rfl, rfl, rfl, rfl, rfl, rfl, by omega⟩
  · have hie : i = rows.length := by omega
    subst hie
    have c79 := fun m => s79 (m := m) hu6
    have hov := fun x0 x1 x2 x3 x4 x5 => icells_over6 hu6 (x0 := x0) (x1 := x1) (x2 := x2) (x3 := x3) (x4 := x4) (x5 := x5)
    have hze : icells zer6 = [.int .i64 0, .int .i64 0, .int .i64 0, .int .i64 0, .int .i64 0, .int .i64 0] := rfl
    rw [hze]
    repeat' (first | (refine WO.opE (by intro; simp (disch := omega) only [go_sem]; rfl) (by simp only [pt8, pt7]; rfl) ?_) | (refine WT.spec rfl rfl (fun V => c79 ⟨V, []⟩) (by simp only [pt8, pt6]; rfl) ?_) | (refine WC.seq ?_) | (refine WC.region ?_) | (refine WO.nil ?_) | (simp only [fl1]) | (refine WC.drawT ?_) | (refine WT.nil ?_) | (refine WT.free rfl (by intro; simp (disch := omega) only [go_sem, q0, hcu]; rfl) rfl (by simp only [pt8, pt4, pt5, pt7]; rfl) ?_) | (refine WT.big rfl rfl (by intro; simp (disch := omega) only [go_sem, q0, hcu]; rfl) (by simp (disch := omega) only [go_sem, touch]; rfl) (by first | exact .inl rfl | exact .inr (apart_nil _) | exact .inr trivial | (right; apply apart_mk; simp only [apartL, List.nil_append, List.cons_append, List.getElem?_cons_succ, List.getElem?_cons_zero, Tch.free, and_true, true_and]; first | done | omega)) (by simp only [pt8, pt4, pt5]; rfl) ?_) | (refine WT.bigN rfl rfl (by intro; simp (disch := omega) only [go_sem, Option.bind_eq_bind, q1, hul, hov]; rfl) (by simp (disch := omega) only [go_sem, touch]; rfl) (by first | exact .inl rfl | exact .inr (apart_nil _) | exact .inr trivial | (right; apply apart_mk; simp only [apartL, List.nil_append, List.cons_append, List.getElem?_cons_succ, List.getElem?_cons_zero, Tch.free, and_true, true_and]; first | done | omega)) ?_) | (refine WC.exit ?_) | (refine WC.ret ?_) | (refine WC.em2 rfl (fun hp => ?_) (fun hp => ?_) <;> try (exfalso; first | omega | contradiction)))
    exact ⟨_, by simp only [evRes, gt6, gt7, q1, loadCs, hcu, if_true, Option.bind_some, Option.map_some]; rfl, rfl⟩
theorem SxS.byVal {x : AV} {xs : List Int} (h : SxS x xs) (H : Hp) : Zz.byVal H x = some x := by
  rcases h with ⟨rfl, _⟩ | ⟨f, rfl⟩
  · rfl
  · have e : (xs.map (AV.int .i16)).all flatAV = true := by simp [flatAV]
    simp only [Zz.byVal, Zz.byC, e, if_true]
theorem x78 {x y x' y' : AV} {v : List Int} {rows : List (List Int)} {ys : List Int} (hx : RwL x rows) (hy : SxS y ys) (h6 : v.length = 6) (hv : okB 31000000000 v) (hr : ∀ i, i < rows.length → okB 6000000000 (rw_ rows i)) (hn : rows.length ≤ 1000) (hyn : ys.length < 9223372036854775808) (hyb : ∀ y ∈ ys, -32768 ≤ y ∧ y ≤ 32767) {m : Mem} (h0 : Zz.byVal m.heap x' = some x) (h1 : Zz.byVal m.heap y' = some y) :
    borrowX N14 78 [.agg (icells v), x', y'] m = some (.tuple [.agg (icells (plusV v rows (byM ys) rows.length)), .bool (decide (okB 1000000000 (plusV v rows (byM ys) rows.length)))], m) :=
  borrowX_of (byVals_cons (byI _ _) (byVals_cons h0 (byVals_cons h1 rfl))) ((f78 hx hy h6 hv hr hn hyn hyb).mono fun y m' h => by
    rw [h]
    simp only [Zz.newV, Zz.newT, newI6]
    rfl)
noncomputable def N15 : Env := N14.put 78 (borrowX N14 78)
theorem N15_ok : EnvOk Try.prog N15 := Env.put_ok N14_ok (borrowX_ok N14_ok (callable Try.func78 (by kernel_rfl)))
end Go.Proofs.Ytnilimjkibimcaa

