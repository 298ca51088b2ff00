import Derived.Test.YtnilimjkibimcaaLm
set_option linter.unusedSimpArgs false
set_option linter.unusedVariables false

namespace Go.Proofs.Ytnilimjkibimcaa
open Go.Zz
set_option maxRecDepth 100000
set_option maxHeartbeats 8000000
theorem byVal_one {H : Hp} {id : Nat} {v : List Int} (hk : Zz.look H id 0 = some (icells v)) (h6 : v.length = 6) : Zz.byVal H (.sref id 0 0 6 1 (some 1)) = some (.sval true 1 (flatR [v])) := by
  have hc := icells_cut h6
  have hf : (icells v).all flatAV = true := flat_ints _
  have e : flatR [v] = icells v := by simp [flatR]
  rw [e]
  show Zz.byC H (.sref id 0 0 6 1 (some 1)) = _
  simp only [Zz.byC, hk, Nat.one_mul, hc, hf, if_true]
  rfl
theorem byVal_i16 {H : Hp} {id : Nat} (hk : Zz.look H id 0 = some [.int .i16 1]) : Zz.byVal H (.sref id 0 0 1 1 (some 1)) = some (.sval true 1 [.int .i16 1]) := by
  show Zz.byC H (.sref id 0 0 1 1 (some 1)) = _
  simp only [Zz.byC, hk]
  rfl
theorem rwl_one {v : List Int} (h6 : v.length = 6) : RwL (.sval true 1 (flatR [v])) [v] := lit_rw (rows := [v]) fun r hr => by
  rw [List.mem_singleton] at hr
  rw [hr]; exact h6
theorem plus_one {v w : List Int} {k : Int} (h6 : v.length = 6) (hw6 : w.length = 6) (hw : ∀ t, t < 6 → w.getD t 0 = v.getD t 0 * k) : plusV w [v] (byM [1]) ([v] : List (List Int)).length = scaleV v (k + 1) := by
  refine getD_ext (by rw [plusV_len hw6, scale_len]) fun t ht => ?_
  rw [plusV_len hw6] at ht
  show (subV w (-(byM [1] 0)) v).getD t 0 = _
  rw [sub_at ht, scale_at ht, hw t ht, show byM [1] 0 = 1 from by decide, Int.mul_add]
  omega
theorem tmod_dvd {k n : Int} (hn : 0 < n) : k.tmod n = 0 ↔ n ∣ k := ⟨Int.dvd_of_tmod_eq_zero, Int.tmod_eq_zero_of_dvd⟩
theorem run20 {x : AV} {rows : List (List Int)} {v : List Int} (hx : RwL x rows) (hmax : rows.length < 9223372036854775807) (hv6 : v.length = 6) : WF N21 (.func 20 [] []) [x, .agg (icells v)] ⟨[], []⟩ fun u m' => u = .bool true := by
  have c65 := fun m => s65 (m := m)
  have h6 : Six rows := fun i hi => hx.six hi
  have c76 := fun m => x76 (m := m) hx hmax hv6 (hx.byVal _)
  have hcv := icells_cut hv6
  have hvl : (icells v).length = 6 := by rw [icells_len, hv6]
  have hovv := fun x0 x1 x2 x3 x4 x5 => icells_over6 hv6 (x0 := x0) (x1 := x1) (x2 := x2) (x3 := x3) (x4 := x4) (x5 := x5)
  have hbd := ordD_bd (v := v) h6
  by_cases he : errO rows v = 0
  · rw [he] at c76
    have hvv := errO_zero he
    have hok := hvv.1.2
    have hord := fun {w : List Int} {K : Int} => orders (w := w) (K := K) h6 hv6
    have hr1 : ∀ i, i < ([v] : List (List Int)).length → okB 6000000000 (rw_ [v] i) := fun i hi => by
      have : i = 0 := by simpa using hi
      subst this
      exact fun j hj => by have := hok j hj; show -6000000000 ≤ v.getD j 0 ∧ v.getD j 0 ≤ 6000000000; omega
    have d78 := fun {w : List Int} (hw6 : w.length = 6) (hw : okB 31000000000 w) {m : Mem} {x' y' : AV} h0 h1 => x78 (m := m) (x' := x') (y' := y') (rwl_one hv6) (SxS.mk [1] true) hw6 hw hr1 (by simp) (by decide) (by decide) h0 h1
    have c78 := fun m x' y' h0 h1 => d78 (w := zer6) rfl (by decide) (m := m) (x' := x') (y' := y') h0 h1
    rw [plus_one (k := 0) hv6 rfl fun t ht => by rw [Int.mul_zero]; exact (by decide : ∀ j, j < 6 → zer6.getD j 0 = 0) t ht] at c78
    have hz : icells zer6 = [.int .i64 0, .int .i64 0, .int .i64 0, .int .i64 0, .int .i64 0, .int .i64 0] := rfl
    rw [hz, Int.zero_add] at c78
    have hs6 := scale_len v 1
    have hcs := icells_cut hs6
    have hsl : (icells (scaleV v 1)).length = 6 := by rw [icells_len, hs6]
    have hovs := fun x0 x1 x2 x3 x4 x5 => icells_over6 hs6 (x0 := x0) (x1 := x1) (x2 := x2) (x3 := x3) (x4 := x4) (x5 := x5)
    refine WF.fnE rfl (fn_of Try.func20 cir20) (by show 2 ≤ 142; decide) ?_
    unfold ir20; dsimp only [k0, kI, mV, oO, oG]
    simp only [padTo, List.replicate, List.nil_append, List.append_nil]
    repeat' (first | (refine WO.yes rfl ?_) | (refine WO.opE (by intro; simp (disch := omega) only [go_sem, Zz.look, List.cons_append, List.nil_append, fillP, Option.bind_eq_bind, zeros, ov_one0, Nat.reduceAdd, hcv, hvl, hovv]; rfl) (by simp only [pt8, pt0, pt1, pt2, pt3, pt4, pt5, pt6, pt7]; rfl) ?_) | (refine WO.opN (by intro; simp (disch := omega) only [go_sem, Zz.look, Option.bind_eq_bind, hovs, hsl, setBlk, List.set_cons_zero, List.set_cons_succ]; rfl) ?_) | (refine WO.specE rfl rfl (c65 _) (by simp only [pt8, pt2]; rfl) ?_) | (refine WO.specE rfl rfl (c76 _) (by simp only [pt8, pt6]; rfl) ?_) | (refine WO.specE rfl rfl (c78 _ _ _ (byVal_one rfl hv6) (byVal_i16 rfl)) (by simp only [pt8, pt2]; rfl) ?_) | (refine WC.seq ?_) | (refine WC.region ?_) | (refine WO.nil ?_) | (simp only [fl1]) | (refine WC.skip ?_) | (refine WC.block ?_) | (refine WO.em2 rfl (by intro hp; simp only [hp, decide_true]; rfl) (by intro hp; simp only [hp, decide_false]; rfl) (fun hp => ?_) (fun hp => ?_) <;> try (exfalso; first | omega | contradiction)) | (refine WC.em2 rfl (fun hp => ?_) (fun hp => ?_) <;> try (exfalso; first | omega | contradiction)))
    clear c78 c65 c76 hcs hsl hovs hs6
    refine WC.mono (Q := fun e s => e = .exit 0 ∧ ∃ T w R, s = ⟨T, some ⟨0, icells v⟩ :: some ⟨0, icells v⟩ :: some ⟨0, [.int .i16 1]⟩ :: some ⟨0, icells w⟩ :: R, []⟩ ∧ T.length = 142 ∧ gt T 0 = x ∧ gt T 3 = .pref 0 0 0 ∧ gt T 5 = .bool true ∧ gt T 6 = .int .i64 (ordD rows v) ∧ gt T 8 = .pref 3 0 0 ∧ w.length = 6) ?_ ?_
    · refine WC.loopI (fun m s => ∃ T R k, s = ⟨T, some ⟨0, icells v⟩ :: some ⟨0, icells v⟩ :: some ⟨0, [.int .i16 1]⟩ :: some ⟨0, icells (scaleV v (k : Nat))⟩ :: R, []⟩ ∧ T.length = 142 ∧ gt T 0 = x ∧ gt T 3 = .pref 0 0 0 ∧ gt T 5 = .bool true ∧ gt T 6 = .int .i64 (ordD rows v) ∧ gt T 8 = .pref 3 0 0 ∧ gt T 9 = .bool (decide (okB 1000000000 (scaleV v (k : Nat)))) ∧ gt T 10 = .int .i64 (k : Nat) ∧ m + k = 31 ∧ 1 ≤ k) ?_ 30 _ ⟨_, [], 1, rfl, rfl, rfl, rfl, rfl, rfl, rfl, rfl, rfl, by omega, by omega⟩
      rintro m _ ⟨T, R, k, rfl, hT, g0, g3, g5, g6, g8, g9, g10, hm, hk1⟩
      obtain ⟨f, rfl⟩ := ex142 hT
      clear hT
      replace g0 : f 0 = x := g0
      replace g3 : f 3 = .pref 0 0 0 := g3
      replace g5 : f 5 = .bool true := g5
      replace g6 : f 6 = .int .i64 (ordD rows v) := g6
      replace g8 : f 8 = .pref 3 0 0 := g8
      replace g9 : f 9 = .bool (decide (okB 1000000000 (scaleV v (k : Nat)))) := g9
      replace g10 : f 10 = .int .i64 (k : Nat) := g10
      simp only [g0, g3, g5, g6, g8, g9, g10]
      have hs6 := scale_len v (k : Nat)
      have hcs := icells_cut hs6
      have hsl : (icells (scaleV v (k : Nat))).length = 6 := by rw [icells_len, hs6]
      by_cases hk : k ≤ 30
      · by_cases hw : okB 1000000000 (scaleV v (k : Nat))
        · have hn6 := scale_len v ((k + 1 : Nat) : Int)
          have hnl : (icells (scaleV v ((k + 1 : Nat) : Int))).length = 6 := by rw [icells_len, hn6]
          have hovn : Zz.over (icells (scaleV v (k : Nat))) 0 (icells (scaleV v ((k + 1 : Nat) : Int))) = some (icells (scaleV v ((k + 1 : Nat) : Int))) := by
            unfold Zz.over
            rw [hsl, hnl]
            simp [hsl]
          have c78 := fun m x' y' h0 h1 => d78 (w := scaleV v (k : Nat)) hs6 (fun j hj => by have := hw j hj; omega) (m := m) (x' := x') (y' := y') h0 h1
          rw [plus_one (k := ((k : Nat) : Int)) hv6 hs6 fun t ht => scale_at ht, show ((k : Nat) : Int) + 1 = ((k + 1 : Nat) : Int) from rfl] at c78
          obtain ⟨xm, hxm, c66⟩ := x66 hx hmax hs6
          have c66 := fun m => c66 m x (hx.byVal _)
          have q0 : ∀ (a b c d : List AV) (S : Hp), Zz.look (some ⟨0, a⟩ :: some ⟨0, b⟩ :: some ⟨0, c⟩ :: some ⟨0, d⟩ :: S) 0 0 = some a := fun _ _ _ _ _ => rfl
          have q3 : ∀ (a b c d : List AV) (S : Hp), Zz.look (some ⟨0, a⟩ :: some ⟨0, b⟩ :: some ⟨0, c⟩ :: some ⟨0, d⟩ :: S) 3 0 = some d := fun _ _ _ _ _ => rfl
          have w3 : ∀ (a b c d e : List AV) (S : Hp), setBlk (some ⟨0, a⟩ :: some ⟨0, b⟩ :: some ⟨0, c⟩ :: some ⟨0, d⟩ :: S) 3 0 e = some ⟨0, a⟩ :: some ⟨0, b⟩ :: some ⟨0, c⟩ :: some ⟨0, e⟩ :: S := fun _ _ _ _ _ _ => rfl
          have kA : ∀ (b0 b1 b2 b3 : Option Blk) (a : List AV) (l : Hp), Zz.look (b0 :: b1 :: b2 :: b3 :: (R ++ some ⟨0, a⟩ :: l)) (R.length + 1 + 1 + 1 + 1) 0 = some a := fun _ _ _ _ _ _ => by simp [Zz.look]
          have kB : ∀ (b0 b1 b2 b3 x : Option Blk) (a : List AV) (l : Hp), Zz.look (b0 :: b1 :: b2 :: b3 :: (R ++ x :: some ⟨0, a⟩ :: l)) (R.length + 1 + 1 + 1 + 1 + 1) 0 = some a := fun _ _ _ _ _ _ _ => by
            show (match (R ++ _ :: some (⟨0, _⟩ : Blk) :: _ : Hp)[R.length + 1]? with | some (some b) => _ | _ => _) = _
            rw [app_g1]
            rfl
          have hor := hord (w := scaleV v (k : Nat)) (K := (k : Nat)) hs6 he hw (by omega) (fun j hj => by show (scaleV v (k : Nat)).getD j 0 = _; rw [scale_at hj, Int.mul_comm]; rfl)
          have hd2 : decide (okB 1000000000 (scaleV v (k : Nat))) = true := decide_eq_true hw
          rw [hd2]
          generalize ordD rows v = n at *
          by_cases hn : 0 < n
          · have hmx : max n 1 = n := by omega
            have hn0 : n ≠ 0 := by omega
            rcases hor with h1 | ⟨h1, h2⟩
            · rw [h1] at c66
              generalize decide (memD rows (scaleV v (k : Nat))) = b at *
              have hb1 := Int.tmod_lt_of_pos (k : Int) hn
              have hb2 := Int.lt_tmod_of_pos (k : Int) hn
              cases b
              all_goals
                repeat' (first | (refine WO.yes rfl ?_) | (refine WO.noE rfl (by simp only [pt8, pt0, pt1, pt2, pt3, pt4, pt5, pt6, pt7]; rfl) ?_) | (refine WO.opE (by intro; simp (disch := omega) only [go_sem, fillP, Option.bind_eq_bind, List.append_assoc, zeros, List.length_append, ov_one0, q0, q3, hcv, hvl, hcs, hovv, if_false, List.length_cons, List.cons_append]; rfl) (by simp only [pt8, pt0, pt1, pt2, pt3, pt4, pt5, pt6, pt7]; rfl) ?_) | (refine WO.opN (by intro; simp (disch := omega) only [go_sem, Option.bind_eq_bind, q3, hovn, if_false]; rfl) ?_) | (refine WO.specE rfl rfl (c66 _) (by simp only [pt8, pt7]; rfl) ?_) | (refine WO.specE rfl rfl (c78 _ _ _ (byVal_one (kA _ _ _ _ _ _) hv6) (byVal_i16 (kB _ _ _ _ _ _ _))) (by simp only [pt8, pt6]; rfl) ?_) | (refine WC.seq ?_) | (refine WC.region ?_) | (refine WO.nil ?_) | (simp only [fl1, fl10]) | (refine WC.yes rfl ?_) | (refine WC.skip ?_) | (refine WC.block ?_) | (refine WO.em2 rfl (by intro hp; simp only [hp, decide_true]; rfl) (by intro hp; simp only [hp, decide_false]; rfl) (fun hp => ?_) (fun hp => ?_) <;> try (exfalso; first | omega | contradiction)))
                exact ⟨m - 1, by omega, _, _, k + 1, rfl, rfl, rfl, rfl, rfl, rfl, rfl, rfl, rfl, by omega, by omega⟩
            · have hb : decide (memD rows (scaleV v (k : Nat))) = decide ((k : Int).tmod n = 0) := by
                rw [decide_eq_decide, h2, tmod_dvd hn]
                exact ⟨fun h => h.2, fun h => ⟨hn, h⟩⟩
              rw [h1, hb] at c66
              have hb1 := Int.tmod_lt_of_pos (k : Int) hn
              have hb2 := Int.lt_tmod_of_pos (k : Int) hn
              repeat' (first | (refine WO.yes rfl ?_) | (refine WO.noE rfl (by simp only [pt8, pt0, pt4, pt5, pt6]; rfl) ?_) | (refine WO.opE (by intro; simp (disch := omega) only [go_sem, fillP, Option.bind_eq_bind, List.append_assoc, zeros, List.length_append, ov_one0, q0, q3, hcv, hvl, hcs, hovv, hmx, hn0, if_false, List.length_cons, List.cons_append]; rfl) (by simp only [pt8, pt0, pt1, pt2, pt3, pt4, pt5, pt6, pt7]; rfl) ?_) | (refine WO.opN (by intro; simp (disch := omega) only [go_sem, Option.bind_eq_bind, q3, hovn, hmx]; rfl) ?_) | (refine WO.specE rfl rfl (c66 _) (by simp only [pt8, pt7]; rfl) ?_) | (refine WO.specE rfl rfl (c78 _ _ _ (byVal_one (kA _ _ _ _ _ _) hv6) (byVal_i16 (kB _ _ _ _ _ _ _))) (by simp only [pt8, pt6]; rfl) ?_) | (refine WC.seq ?_) | (refine WC.region ?_) | (refine WO.nil ?_) | (simp only [fl1, fl10]) | (refine WC.yes rfl ?_) | (refine WC.skip ?_) | (refine WC.block ?_) | (refine WO.em2 rfl (by intro hp; simp only [hp, decide_true]; rfl) (by intro hp; simp only [hp, decide_false]; rfl) (fun hp => ?_) (fun hp => ?_) <;> try (exfalso; first | omega | contradiction)))
              exact ⟨m - 1, by omega, _, _, k + 1, rfl, rfl, rfl, rfl, rfl, rfl, rfl, rfl, rfl, by omega, by omega⟩
          · rcases hor with h1 | ⟨h1, h2⟩
            · rw [h1] at c66
              generalize decide (memD rows (scaleV v (k : Nat))) = b at *
              cases b
              all_goals
                repeat' (first | (refine WO.yes rfl ?_) | (refine WO.noE rfl (by simp only [pt8, pt0, pt1, pt2, pt3, pt4, pt5, pt6, pt7]; rfl) ?_) | (refine WO.opE (by intro; simp (disch := omega) only [go_sem, fillP, Option.bind_eq_bind, List.append_assoc, zeros, List.length_append, ov_one0, q0, q3, hcv, hvl, hcs, hovv, List.length_cons, List.cons_append]; rfl) (by simp only [pt8, pt0, pt1, pt2, pt3, pt4, pt5, pt6, pt7]; rfl) ?_) | (refine WO.opN (by intro; simp (disch := omega) only [go_sem, Option.bind_eq_bind, q3, hovn]; rfl) ?_) | (refine WO.specE rfl rfl (c66 _) (by simp only [pt8, pt7]; rfl) ?_) | (refine WO.specE rfl rfl (c78 _ _ _ (byVal_one (kA _ _ _ _ _ _) hv6) (byVal_i16 (kB _ _ _ _ _ _ _))) (by simp only [pt8, pt6]; rfl) ?_) | (refine WC.seq ?_) | (refine WC.region ?_) | (refine WO.nil ?_) | (simp only [fl1, fl10]) | (refine WC.yes rfl ?_) | (refine WC.skip ?_) | (refine WC.block ?_) | (refine WO.em2 rfl (by intro hp; simp only [hp, decide_true]; rfl) (by intro hp; simp only [hp, decide_false]; rfl) (fun hp => ?_) (fun hp => ?_) <;> try (exfalso; first | omega | contradiction)))
                exact ⟨m - 1, by omega, _, _, k + 1, rfl, rfl, rfl, rfl, rfl, rfl, rfl, rfl, rfl, by omega, by omega⟩
            · have hb : decide (memD rows (scaleV v (k : Nat))) = false := decide_eq_false fun h => hn (h2.1 h).1
              rw [h1, hb] at c66
              repeat' (first | (refine WO.yes rfl ?_) | (refine WO.noE rfl (by simp only [pt8, pt0, pt4, pt5, pt6, pt7]; rfl) ?_) | (refine WO.opE (by intro; simp (disch := omega) only [go_sem, fillP, Option.bind_eq_bind, List.append_assoc, zeros, List.length_append, ov_one0, q0, q3, hcv, hvl, hcs, hovv, List.length_cons, List.cons_append]; rfl) (by simp only [pt8, pt0, pt1, pt2, pt3, pt4, pt5, pt6, pt7]; rfl) ?_) | (refine WO.opN (by intro; simp (disch := omega) only [go_sem, Option.bind_eq_bind, q3, hovn]; rfl) ?_) | (refine WO.specE rfl rfl (c66 _) (by simp only [pt8, pt7]; rfl) ?_) | (refine WO.specE rfl rfl (c78 _ _ _ (byVal_one (kA _ _ _ _ _ _) hv6) (byVal_i16 (kB _ _ _ _ _ _ _))) (by simp only [pt8, pt6]; rfl) ?_) | (refine WC.seq ?_) | (refine WC.region ?_) | (refine WO.nil ?_) | (simp only [fl1, fl10]) | (refine WC.yes rfl ?_) | (refine WC.skip ?_) | (refine WC.block ?_) | (refine WO.em2 rfl (by intro hp; simp only [hp, decide_true]; rfl) (by intro hp; simp only [hp, decide_false]; rfl) (fun hp => ?_) (fun hp => ?_) <;> try (exfalso; first | omega | contradiction)))
              exact ⟨m - 1, by omega, _, _, k + 1, rfl, rfl, rfl, rfl, rfl, rfl, rfl, rfl, rfl, by omega, by omega⟩
        · rw [decide_eq_false hw]
          repeat' (first | (refine WO.yes rfl ?_) | (refine WO.opE (by intro; simp (disch := omega) only [go_sem]; rfl) (by simp only [pt8, pt0, pt1, pt5, pt6, pt7]; rfl) ?_) | (refine WC.seq ?_) | (refine WC.region ?_) | (refine WO.nil ?_) | (simp only [fl1, fl3, fl9]) | (refine WC.no rfl ?_) | (refine WC.exit ?_) | (refine WO.em2 rfl (by intro hp; simp only [hp, decide_true]; rfl) (by intro hp; simp only [hp, decide_false]; rfl) (fun hp => ?_) (fun hp => ?_) <;> try (exfalso; first | omega | contradiction)))
          exact ⟨by first | trivial | rfl, _, _, _, rfl, rfl, rfl, rfl, rfl, rfl, rfl, hs6⟩
      · generalize decide (okB 1000000000 (scaleV v (k : Nat))) = b at *
        repeat' (first | (refine WO.noE rfl (by simp only [pt8, pt0]; rfl) ?_) | (refine WO.opE (by intro; simp (disch := omega) only [go_sem]; rfl) (by simp only [pt8, pt1, pt5, pt6, pt7]; rfl) ?_) | (refine WC.seq ?_) | (refine WC.region ?_) | (refine WO.nil ?_) | (simp only [fl1, fl3, fl9]) | (refine WC.no rfl ?_) | (refine WC.exit ?_) | (refine WO.em2 rfl (by intro hp; simp only [hp, decide_true]; rfl) (by intro hp; simp only [hp, decide_false]; rfl) (fun hp => ?_) (fun hp => ?_) <;> try (exfalso; first | omega | contradiction)))
        exact ⟨by first | trivial | rfl, _, _, _, rfl, rfl, rfl, rfl, rfl, rfl, rfl, hs6⟩
    · rintro _ _ ⟨rfl, T, w0, R, rfl, hT, g0, g3, g5, g6, g8, hw06⟩
      obtain ⟨f, rfl⟩ := ex142 hT
      clear hT
      replace g0 : f 0 = x := g0
      replace g3 : f 3 = .pref 0 0 0 := g3
      replace g5 : f 5 = .bool true := g5
      replace g6 : f 6 = .int .i64 (ordD rows v) := g6
      replace g8 : f 8 = .pref 3 0 0 := g8
      simp only [g0, g3, g5, g6, g8]
      repeat' (first | (refine WO.opE (by intro; simp (disch := omega) only [go_sem]; rfl) (by simp only [pt8, pt1]; rfl) ?_) | (refine WC.seq ?_) | (refine WC.region ?_) | (refine WO.nil ?_) | (simp only [fl1]) | (refine WC.block ?_))
      refine WC.loopI (fun m s => ∃ T w j, s = ⟨T, some ⟨0, icells v⟩ :: some ⟨0, icells v⟩ :: some ⟨0, [.int .i16 1]⟩ :: some ⟨0, icells w⟩ :: R, []⟩ ∧ T.length = 142 ∧ gt T 0 = x ∧ gt T 3 = .pref 0 0 0 ∧ gt T 5 = .bool true ∧ gt T 6 = .int .i64 (ordD rows v) ∧ gt T 8 = .pref 3 0 0 ∧ gt T 105 = .int .i64 (j : Nat) ∧ m + j = 6 ∧ w.length = 6 ∧ ∀ t, t < j → w.getD t 0 = v.getD t 0 * ordD rows v) ?_ 6 _ ⟨_, w0, 0, rfl, rfl, rfl, rfl, rfl, rfl, rfl, rfl, by omega, hw06, fun t ht => by omega⟩
      clear g0 g3 g5 g6 g8 f hw06 w0
      rintro m _ ⟨T, w, j, rfl, hT, g0, g3, g5, g6, g8, g105, hm, hw6, hw1⟩
      obtain ⟨f, rfl⟩ := ex142 hT
      clear hT
      replace g0 : f 0 = x := g0
      replace g3 : f 3 = .pref 0 0 0 := g3
      replace g5 : f 5 = .bool true := g5
      replace g6 : f 6 = .int .i64 (ordD rows v) := g6
      replace g8 : f 8 = .pref 3 0 0 := g8
      replace g105 : f 105 = .int .i64 (j : Nat) := g105
      simp only [g0, g3, g5, g6, g8, g105]
      have hwl : (icells w).length = 6 := by rw [icells_len, hw6]
      by_cases hj : j < 6
      · have hia := icells_at (r := v) (j := j) (by omega)
        have hovw := icells_over (r := w) (j := j) (by omega) (v.getD j 0 * ordD rows v)
        have hb := mul_b2 (hok j hj) (show -1000000000 ≤ ordD rows v ∧ ordD rows v ≤ 1000000000 by omega)
        generalize ordD rows v = n at *
        repeat' (first | (refine WO.opE (by intro; simp (disch := omega) only [go_sem, Zz.look, hia, Nat.mul_one, Nat.zero_add]; rfl) (by simp only [pt8, pt0, pt1, pt2, pt3, pt4, pt5, pt6, pt7]; rfl) ?_) | (refine WO.opN (by intro; simp (disch := omega) only [go_sem, Zz.look, Option.bind_eq_bind, hovw, Nat.zero_add, setBlk, List.set_cons_zero, List.set_cons_succ]; rfl) ?_) | (refine WC.seq ?_) | (refine WC.region ?_) | (refine WO.nil ?_) | (simp only [fl10]) | (refine WC.skip ?_) | (refine WC.block ?_) | (refine WC.em2 rfl (fun hp => ?_) (fun hp => ?_) <;> try (exfalso; first | omega | contradiction)))
        exact ⟨m - 1, by omega, _, w.set j (v.getD j 0 * n), j + 1, rfl, rfl, rfl, rfl, rfl, rfl, rfl, rfl, by omega, by simpa using hw6, fun t ht => by
          by_cases e : t = j
          · subst e; rw [getD_set_self (by omega)]
          · rw [getD_set_ne (by omega)]; exact hw1 t (by omega)⟩
      · have hje : j = 6 := by omega
        subst hje
        have hwe : w = scaleV v (ordD rows v) := getD_ext (by rw [hw6, scale_len]) fun t ht => by rw [hw1 t (by omega), scale_at (by omega)]
        subst hwe
        have hcs := icells_cut hw6
        have c79 := fun m => s79 (m := m) hw6
        by_cases hw : okB 1000000000 (scaleV v (ordD rows v))
        · rw [decide_eq_true hw] at c79
          obtain ⟨xm, hxm, c66⟩ := x66 hx hmax hw6
          have c66 := fun m => c66 m x (hx.byVal _)
          by_cases hn : 0 < ordD rows v
          · rcases hord (w := scaleV v (ordD rows v)) (K := ordD rows v) hw6 he hw (by omega) (fun j hj => by show (scaleV v (ordD rows v)).getD j 0 = _; rw [scale_at hj, Int.mul_comm]; rfl) with h1 | ⟨h1, h2⟩
            · rw [h1] at c66
              generalize decide (memD rows (scaleV v (ordD rows v))) = b at *
              generalize scaleV v (ordD rows v) = w at *
              generalize ordD rows v = n at *
              repeat' (first | (refine WO.yes rfl ?_) | (refine WO.noE rfl (by simp only [pt8, pt6, pt7]; rfl) ?_) | (refine WO.opE (by intro; simp (disch := omega) only [go_sem, Zz.look, hcs]; rfl) (by simp only [pt8, pt0, pt1, pt2, pt3, pt4, pt5, pt6, pt7]; rfl) ?_) | (refine WO.specE rfl rfl (c66 _) (by simp only [pt8, pt5]; rfl) ?_) | (refine WO.specE rfl rfl (c79 _) (by simp only [pt8, pt0]; rfl) ?_) | (refine WC.seq ?_) | (refine WC.region ?_) | (refine WO.nil ?_) | (simp only [fl1]) | (refine WC.yes rfl ?_) | (refine WC.no rfl ?_) | (refine WC.exit ?_) | (refine WC.ret ?_) | (refine WO.em2 rfl (by intro hp; simp only [hp, decide_true]; rfl) (by intro hp; simp only [hp, decide_false]; rfl) (fun hp => ?_) (fun hp => ?_) <;> try (exfalso; first | omega | contradiction)))
              exact ⟨_, rfl, rfl⟩
            · rw [h1, decide_eq_true (h2.2 ⟨hn, Int.dvd_refl _⟩)] at c66
              generalize scaleV v (ordD rows v) = w at *
              generalize ordD rows v = n at *
              repeat' (first | (refine WO.yes rfl ?_) | (refine WO.noE rfl (by simp only [pt8, pt1, pt2, pt7]; rfl) ?_) | (refine WO.opE (by intro; simp (disch := omega) only [go_sem, Zz.look, hcs]; rfl) (by simp only [pt8, pt0, pt1, pt2, pt3, pt4, pt5, pt6, pt7]; rfl) ?_) | (refine WO.specE rfl rfl (c66 _) (by simp only [pt8, pt5]; rfl) ?_) | (refine WO.specE rfl rfl (c79 _) (by simp only [pt8, pt0]; rfl) ?_) | (refine WC.seq ?_) | (refine WC.region ?_) | (refine WO.nil ?_) | (simp only [fl1]) | (refine WC.yes rfl ?_) | (refine WC.no rfl ?_) | (refine WC.exit ?_) | (refine WC.ret ?_) | (refine WO.em2 rfl (by intro hp; simp only [hp, decide_true]; rfl) (by intro hp; simp only [hp, decide_false]; rfl) (fun hp => ?_) (fun hp => ?_) <;> try (exfalso; first | omega | contradiction)))
              exact ⟨_, rfl, rfl⟩
          · generalize scaleV v (ordD rows v) = w at *
            generalize ordD rows v = n at *
            repeat' (first | (refine WO.noE rfl (by simp only [pt8, pt0, pt7]; rfl) ?_) | (refine WO.opE (by intro; simp (disch := omega) only [go_sem]; rfl) (by simp only [pt8, pt1, pt2, pt4, pt5, pt6]; rfl) ?_) | (refine WC.seq ?_) | (refine WC.region ?_) | (refine WO.nil ?_) | (simp only [fl1]) | (refine WC.no rfl ?_) | (refine WC.skip ?_) | (refine WC.exit ?_) | (refine WC.ret ?_) | (refine WO.em2 rfl (by intro hp; simp only [hp, decide_true]; rfl) (by intro hp; simp only [hp, decide_false]; rfl) (fun hp => ?_) (fun hp => ?_) <;> try (exfalso; first | omega | contradiction)))
            all_goals exact ⟨_, rfl, rfl⟩
        · rw [decide_eq_false hw] at c79
          generalize scaleV v (ordD rows v) = w at *
          generalize ordD rows v = n at *
          repeat' (first | (refine WO.yes rfl ?_) | (refine WO.noE rfl (by simp only [pt8, pt0, pt7]; rfl) ?_) | (refine WO.opE (by intro; simp (disch := omega) only [go_sem, Zz.look, hcs]; rfl) (by simp only [pt8, pt1, pt2, pt4, pt5, pt6, pt7]; rfl) ?_) | (refine WO.specE rfl rfl (c79 _) (by simp only [pt8, pt0]; rfl) ?_) | (refine WC.seq ?_) | (refine WC.region ?_) | (refine WO.nil ?_) | (simp only [fl1]) | (refine WC.no rfl ?_) | (refine WC.skip ?_) | (refine WC.exit ?_) | (refine WC.ret ?_) | (refine WO.em2 rfl (by intro hp; simp only [hp, decide_true]; rfl) (by intro hp; simp only [hp, decide_false]; rfl) (fun hp => ?_) (fun hp => ?_) <;> try (exfalso; first | omega | contradiction)))
          all_goals exact ⟨_, rfl, rfl⟩
  · have c26 := fun m => x26 (m := m) hx hmax (hx.byVal _)
    have c79 := fun m => s79 (m := m) hv6
    have eD : ordD rows v = 0 := if_neg he
    rw [eD] at c76
    have hcase : errO rows v = 3 ∨ errO rows v = 1 ∧ ¬ (VM rows ∧ okB 1000000000 v) := by
      unfold errO at he ⊢
      split
      · rename_i h
        rw [if_pos h] at he
        split
        · rename_i h2; rw [if_pos h2] at he; exact absurd rfl he
        · exact .inl rfl
      · rename_i h; exact .inr ⟨rfl, h⟩
    rcases hcase with h1 | ⟨h1, h2⟩
    · rw [h1] at c76
      refine WF.fnE rfl (fn_of Try.func20 cir20) (by show 2 ≤ 142; decide) ?_
      unfold ir20; dsimp only [k0, kI, mV, oO, oG]
      simp only [padTo, List.replicate, List.nil_append, List.append_nil]
      repeat' (first | (refine WO.yes rfl ?_) | (refine WO.noE rfl (by simp only [pt8, pt0, pt1, pt2, pt3, pt4, pt5, pt6, pt7]; rfl) ?_) | (refine WO.opE (by intro; simp (disch := omega) only [go_sem, Zz.look, List.nil_append, hcv]; rfl) (by simp only [pt8, pt0, pt1, pt2, pt3, pt4, pt5, pt6, pt7]; rfl) ?_) | (refine WO.specE rfl rfl (c65 _) (by simp only [pt8, pt2]; rfl) ?_) | (refine WO.specE rfl rfl (c76 _) (by simp only [pt8, pt6]; rfl) ?_) | (refine WC.seq ?_) | (refine WC.region ?_) | (refine WO.nil ?_) | (simp only [fl1, fl2]) | (refine WC.yes rfl ?_) | (refine WC.ret ?_))
      exact ⟨_, rfl, rfl⟩
    · rw [h1] at c76
      by_cases hv : VM rows
      · rw [decide_eq_true hv] at c26
        rw [decide_eq_false fun h => h2 ⟨hv, h⟩] at c79
        refine WF.fnE rfl (fn_of Try.func20 cir20) (by show 2 ≤ 142; decide) ?_
        unfold ir20; dsimp only [k0, kI, mV, oO, oG]
        simp only [padTo, List.replicate, List.nil_append, List.append_nil]
        repeat' (first | (refine WO.yes rfl ?_) | (refine WO.noE rfl (by simp only [pt8, pt0, pt1, pt4, pt5]; rfl) ?_) | (refine WO.opE (by intro; simp (disch := omega) only [go_sem, Zz.look, List.nil_append, hcv]; rfl) (by simp only [pt8, pt0, pt1, pt2, pt3, pt4, pt5, pt6, pt7]; rfl) ?_) | (refine WO.specE rfl rfl (c65 _) (by simp only [pt8, pt2]; rfl) ?_) | (refine WO.specE rfl rfl (c76 _) (by simp only [pt8, pt6]; rfl) ?_) | (refine WO.specE rfl rfl (c26 _) (by simp only [pt8, pt4]; rfl) ?_) | (refine WO.specE rfl rfl (c79 _) (by simp only [pt8, pt7]; rfl) ?_) | (refine WC.seq ?_) | (refine WC.region ?_) | (refine WO.nil ?_) | (simp only [fl1, fl2]) | (refine WC.yes rfl ?_) | (refine WC.ret ?_))
        exact ⟨_, rfl, rfl⟩
      · rw [decide_eq_false hv] at c26
        refine WF.fnE rfl (fn_of Try.func20 cir20) (by show 2 ≤ 142; decide) ?_
        unfold ir20; dsimp only [k0, kI, mV, oO, oG]
        simp only [padTo, List.replicate, List.nil_append, List.append_nil]
        repeat' (first | (refine WO.yes rfl ?_) | (refine WO.noE rfl (by simp only [pt8, pt0, pt1, pt4, pt5, pt6, pt7]; rfl) ?_) | (refine WO.opE (by intro; simp (disch := omega) only [go_sem, Zz.look, List.nil_append, hcv]; rfl) (by simp only [pt8, pt0, pt1, pt2, pt3, pt4, pt5, pt6, pt7]; rfl) ?_) | (refine WO.specE rfl rfl (c65 _) (by simp only [pt8, pt2]; rfl) ?_) | (refine WO.specE rfl rfl (c76 _) (by simp only [pt8, pt6]; rfl) ?_) | (refine WO.specE rfl rfl (c26 _) (by simp only [pt8, pt4]; rfl) ?_) | (refine WC.seq ?_) | (refine WC.region ?_) | (refine WO.nil ?_) | (simp only [fl1, fl2]) | (refine WC.yes rfl ?_) | (refine WC.ret ?_))
        exact ⟨_, rfl, rfl⟩
end Go.Proofs.Ytnilimjkibimcaa

