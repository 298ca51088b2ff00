import Derived.Test.YtnilimjkibimcaaNk
import Derived.Test.YtnilimjkibimcaaIrT
set_option linter.unusedSimpArgs false
set_option linter.unusedVariables false

namespace Go.Proofs.Ytnilimjkibimcaa
open Go.Zz
set_option maxRecDepth 100000
set_option maxHeartbeats 4000000
noncomputable def T1 : Env := E21.put 25 (borrowX E1 25)
theorem T1_ok : EnvOk Try.prog T1 := Env.put_ok E21_ok (borrowX_ok E1_ok (callable Try.func25 (by kernel_rfl)))
noncomputable def T2 : Env := T1.put 30 (borrowR E19 30)
theorem T2_ok : EnvOk Try.prog T2 := Env.put_ok T1_ok (borrowR_ok E19_ok (callable Try.func30 (by kernel_rfl)))
noncomputable def T3 : Env := T2.put 35 (borrowX E8 35)
theorem T3_ok : EnvOk Try.prog T3 := Env.put_ok T2_ok (borrowX_ok E8_ok (callable Try.func35 (by kernel_rfl)))
theorem gs_take {sz : Nat} {H : Hp} {v : AV} {q : Nat} {c : List AV} (h : GS sz H v q c) (hf : c.all flatAV = true) (e : Int) (B : Hp) : ∃ new v', takeBlks H (uniq (refs (.tuple [v, .int .i64 e])) []) = some new ∧ renV H (uniq (refs (.tuple [v, .int .i64 e])) []) B.length (.tuple [v, .int .i64 e]) = some (.tuple [v', .int .i64 e]) ∧ GS sz (B ++ new) v' B.length c ∧ Zz.resC (B ++ new) v' = Zz.resC H v := by
  rcases h with ⟨rfl, rfl⟩ | ⟨g, rfl, rfl, hk⟩ | ⟨g, n, rfl, h1, h2, hk⟩
  · exact ⟨[], .snil, rfl, rfl, .inl ⟨rfl, rfl⟩, rfl⟩
  · have hb := look_eq_iff.1 hk
    have hB : Zz.look (B ++ [some ⟨0, []⟩]) B.length 0 = some [] := lk0 rfl
    refine ⟨[some ⟨0, []⟩], .sref B.length 0 0 sz 0 (some 0), ?_, ?_, .inr (.inl ⟨0, rfl, rfl, lk0 rfl⟩), by simp only [Zz.resC, hk, hB]⟩
    · simp [refs, refsT, refsA, refsC, uniq, takeBlks, hb]
    · simp [refs, refsT, refsA, refsC, uniq, renV, renT, renA, renC, findIdx, hk]
  · have hb := look_eq_iff.1 hk
    have hB : Zz.look (B ++ [some ⟨0, c⟩]) B.length 0 = some c := lk0 rfl
    refine ⟨[some ⟨0, c⟩], .sref B.length 0 0 sz n none, ?_, ?_, .inr (.inr ⟨0, n, rfl, h1, h2, lk0 rfl⟩), by simp only [Zz.resC, hk, hB]⟩
    · simp [refs, refsT, refsA, refsC, uniq, takeBlks, hb, hf]
    · simp [refs, refsT, refsA, refsC, uniq, renV, renT, renA, renC, findIdx, hk]
theorem w30 {l : AV} {rows : List (List Int)} (hl : RwL l rows) (hmax : rows.length < 9223372036854775807) : WF E19 (.func 30 [] []) [l] ⟨[], []⟩ fun y m' => ∃ v q, y = .tuple [v, .int .i64 (errC rows)] ∧ GS 6 m'.heap v q (flatR (kernR rows)) := by
  by_cases hv : VM rows
  · unfold kernR errC
    rw [if_pos hv, if_pos hv]
    exact f30 hl hv
  · unfold kernR errC
    rw [if_neg hv, if_neg hv]
    have c25 := fun m => s25 (m := m) hl hmax
    rw [decide_eq_false hv] at c25
    have hlc := hl.cells
    unfold AV.cells at hlc
    refine WF.fnE rfl (fn_of Try.func30 cir30) (by show 1 ≤ 138; decide) ?_
    unfold ir30; dsimp only [k0, kI, mV, oO, oG]
    simp only [padTo, List.replicate, List.nil_append, List.append_nil]
    repeat' (first | (refine WO.opE (by intro; simp (disch := omega) only [go_sem]; rfl) (by simp only [pt8, pt2, pt3, pt4, pt6]; rfl) ?_) | (refine WO.specE rfl rfl (c25 _) (by simp only [pt8, pt5]; rfl) ?_) | (refine WC.seq ?_) | (refine WC.region ?_) | (refine WO.nil ?_) | (simp only [fl1, fl2]) | (refine WC.yes rfl ?_) | (refine WC.ret ?_))
    exact ⟨_, rfl, .snil, 0, rfl, .inl ⟨rfl, rfl⟩⟩
theorem kernR_six {rows : List (List Int)} : ∀ r ∈ kernR rows, r.length = 6 := by
  unfold kernR
  split
  · exact kerR_six
  · intro r hr; cases hr
theorem r30 {l : AV} {rows : List (List Int)} (hl : RwL l rows) (hmax : rows.length < 9223372036854775807) : ∃ x, RwL x (kernR rows) ∧ ∀ (B : Hp) (L : List (Option ALoop)), ∃ new v', (∀ l', Zz.byVal B l' = some l → borrowR E19 30 [l'] ⟨B, L⟩ = some (.tuple [v', .int .i64 (errC rows)], ⟨B ++ new, L⟩)) ∧ GS 6 (B ++ new) v' B.length (flatR (kernR rows)) ∧ Zz.resC (B ++ new) v' = some x := by
  obtain ⟨n, y, m', h1, v, q, rfl, h2⟩ := (w30 hl hmax).ex
  obtain ⟨x, hx, hrx⟩ := GS.rows h2 kernR_six
  refine ⟨x, hx, fun B L => ?_⟩
  obtain ⟨new, v', a1, a2, a3, a4⟩ := gs_take h2 (flatR_flat _) (errC rows) B
  exact ⟨new, v', fun l' h0 => borrowR_of (m := ⟨B, L⟩) (byVals_cons h0 rfl) ⟨⟨n, _, m', h1, new, _, a1, a2, rfl⟩⟩, a3, a4.trans hrx⟩
def okB (b : Int) (r : List Int) : Prop := ∀ j, j < 6 → -b ≤ r.getD j 0 ∧ r.getD j 0 ≤ b
instance (b : Int) (r : List Int) : Decidable (okB b r) := by unfold okB; infer_instance
theorem pureI (r : List Int) : Zz.pureA (.agg (icells r)) = true := by
  show (icells r).all Zz.pureC = true
  unfold icells
  rw [List.all_map]
  exact List.all_eq_true.2 fun _ _ => rfl
theorem f117 {r : List Int} {b : Int} (h6 : r.length = 6) (hb : 0 ≤ b ∧ b ≤ 1000) : WF T3 (.func 117 [] []) [.agg (icells r), .int .i64 b] ⟨[], []⟩ fun y m' => y = .bool (decide (okB b r)) := by
  have hml : (icells r).length = 6 := by rw [icells_len, h6]
  have hcut := icells_cut h6
  refine WF.fnE rfl (fn_of Try.func117 cir117) (by show 2 ≤ 21; decide) ?_
  unfold ir117; dsimp only [k0, kI, mV, oO, oG]
  simp only [padTo, List.replicate, List.nil_append, List.append_nil]
  repeat' (first | (refine WO.opE (by intro; simp (disch := omega) only [go_sem, Zz.look, hcut]; rfl) (by simp only [pt8, pt0, pt2, pt4, pt7]; rfl) ?_) | (refine WC.seq ?_) | (refine WC.region ?_) | (refine WO.nil ?_) | (simp only [fl1]) | (refine WC.block ?_))
  refine WC.loopI (fun m s => ∃ T j, s = ⟨T, [some ⟨0, icells r⟩], []⟩ ∧ T.length = 21 ∧ gt T 1 = .int .i64 b ∧ gt T 7 = .agg (icells r) ∧ gt T 8 = .int .i64 (j : Nat) ∧ m + j = 6 ∧ ∀ t, t < j → -b ≤ r.getD t 0 ∧ r.getD t 0 ≤ b) ?_ 6 _ ⟨_, 0, rfl, rfl, rfl, rfl, rfl, by omega, fun t ht => by omega⟩
  rintro m _ ⟨T, j, rfl, hT, g1, g7, g8, hm, hz⟩
  obtain ⟨f, rfl⟩ := ex21 hT
  clear hT
  replace g1 : f 1 = .int .i64 b := g1
  replace g7 : f 7 = .agg (icells r) := g7
  replace g8 : f 8 = .int .i64 (j : Nat) := g8
  simp only [g1, g7, g8]
  by_cases hj : j < 6
  · have hia := icells_at (r := r) (j := j) (by omega)
    generalize hx : r.getD j 0 = x at *
    by_cases hxb : -b ≤ x ∧ x ≤ b
    · have hxb1 := hxb
      repeat' (first | (refine WO.yes rfl ?_) | (refine WO.opE (by intro; simp (disch := omega) only [go_sem, hia, Nat.mul_one, Int.zero_sub]; rfl) (by simp only [pt8, pt0, pt1, pt2, pt3, pt4, pt5, pt6, pt7]; rfl) ?_) | (refine WC.seq ?_) | (refine WC.region ?_) | (refine WO.nil ?_) | (simp only [fl1, fl10]) | (refine WC.skip ?_) | (refine WC.block ?_) | (refine WO.em2 rfl (by intro hp; simp only [hp, decide_true]; rfl) (by intro hp; simp only [hp, decide_false]; rfl) (fun hp => ?_) (fun hp => ?_) <;> try (exfalso; first | omega | contradiction)) | (refine WC.em2 rfl (fun hp => ?_) (fun hp => ?_) <;> try (exfalso; first | omega | contradiction)))
      exact ⟨m - 1, by omega, _, j + 1, rfl, rfl, rfl, rfl, rfl, by omega, fun t ht => by
        by_cases e : t = j
        · subst e; rw [hx]; exact hxb
        · exact hz t (by omega)⟩
    · have hxb1 := hxb
      have hd : decide (okB b r) = false := decide_eq_false fun h => hxb (by have := h j hj; rw [hx] at this; exact this)
      repeat' (first | (refine WO.yes rfl ?_) | (refine WO.noE rfl (by simp only [pt8, pt0, pt1, pt2]; rfl) ?_) | (refine WO.opE (by intro; simp (disch := omega) only [go_sem, hia, Nat.mul_one, Int.zero_sub]; rfl) (by simp only [pt8, pt0, pt1, pt2, pt3, pt4, pt5, pt6, pt7]; rfl) ?_) | (refine WC.seq ?_) | (refine WC.region ?_) | (refine WO.nil ?_) | (simp only [fl1, fl2, fl5, fl8]) | (refine WC.yes rfl ?_) | (refine WC.skip ?_) | (refine WC.ret ?_) | (refine WC.block ?_) | (refine WO.em2 rfl (by intro hp; simp only [hp, decide_true]; rfl) (by intro hp; simp only [hp, decide_false]; rfl) (fun hp => ?_) (fun hp => ?_) <;> try (exfalso; first | omega | contradiction)) | (refine WC.em2 rfl (fun hp => ?_) (fun hp => ?_) <;> try (exfalso; first | omega | contradiction)))
      all_goals exact ⟨_, rfl, by rw [hd]; rfl⟩
  · have hje : j = 6 := by omega
    subst hje
    have hd : decide (okB b r) = true := decide_eq_true hz
    repeat' (first | (refine WO.opE (by intro; simp (disch := omega) only [go_sem]; rfl) (by simp only [pt8, pt1, pt4]; rfl) ?_) | (refine WC.seq ?_) | (refine WC.region ?_) | (refine WO.nil ?_) | (simp only [fl1]) | (refine WC.no rfl ?_) | (refine WC.exit ?_) | (refine WC.ret ?_))
    exact ⟨_, rfl, by rw [hd]; rfl⟩
theorem s117 {r : List Int} {b : Int} (h6 : r.length = 6) (hb : 0 ≤ b ∧ b ≤ 1000) {m : Mem} : borrowE T3 117 [.agg (icells r), .int .i64 b] m = some (.bool (decide (okB b r)), m) :=
  borrowE_of (pures_cons (pureI r) rfl) ((f117 h6 hb).mono fun y m' h => by rw [h]; rfl)
noncomputable def T4 : Env := T3.put 117 (borrowE T3 117)
theorem T4_ok : EnvOk Try.prog T4 := Env.put_ok T3_ok (borrowE_ok T3_ok (callable Try.func117 (by kernel_rfl)))
theorem f61 {r : List Int} (h6 : r.length = 6) : WF T4 (.func 61 [] []) [.agg (icells r)] ⟨[], []⟩ fun y m' => y = .bool (decide (okB 48 r)) := by
  have hml : (icells r).length = 6 := by rw [icells_len, h6]
  have hcut := icells_cut h6
  have c117 := fun m => s117 (m := m) (b := 48) h6 (by decide)
  refine WF.fnE rfl (fn_of Try.func61 cir61) (by show 1 ≤ 5; decide) ?_
  unfold ir61; dsimp only [k0, kI, mV, oO, oG]
  simp only [padTo, List.replicate, List.nil_append, List.append_nil]
  repeat' (first | (refine WO.opE (by intro; simp (disch := omega) only [go_sem, Zz.look, hcut]; rfl) (by simp only [pt1, pt2, pt3]; rfl) ?_) | (refine WO.specE rfl rfl (c117 _) (by simp only [pt4]; rfl) ?_) | (refine WC.seq ?_) | (refine WC.region ?_) | (refine WO.nil ?_) | (simp only [fl1]) | (refine WC.ret ?_))
  exact ⟨_, rfl, rfl⟩
theorem s61 {r : List Int} (h6 : r.length = 6) {m : Mem} : borrowE T4 61 [.agg (icells r)] m = some (.bool (decide (okB 48 r)), m) :=
  borrowE_of (pures_cons (pureI r) rfl) ((f61 h6).mono fun y m' h => by rw [h]; rfl)
theorem f113 {r : List Int} (h6 : r.length = 6) : WF T4 (.func 113 [] []) [.agg (icells r)] ⟨[], []⟩ fun y m' => y = .bool (decide (okB 576 r)) := by
  have hml : (icells r).length = 6 := by rw [icells_len, h6]
  have hcut := icells_cut h6
  have c117 := fun m => s117 (m := m) (b := 576) h6 (by decide)
  refine WF.fnE rfl (fn_of Try.func113 cir113) (by show 1 ≤ 5; decide) ?_
  unfold ir113; dsimp only [k0, kI, mV, oO, oG]
  simp only [padTo, List.replicate, List.nil_append, List.append_nil]
  repeat' (first | (refine WO.opE (by intro; simp (disch := omega) only [go_sem, Zz.look, hcut]; rfl) (by simp only [pt1, pt2, pt3]; rfl) ?_) | (refine WO.specE rfl rfl (c117 _) (by simp only [pt4]; rfl) ?_) | (refine WC.seq ?_) | (refine WC.region ?_) | (refine WO.nil ?_) | (simp only [fl1]) | (refine WC.ret ?_))
  exact ⟨_, rfl, rfl⟩
theorem s113 {r : List Int} (h6 : r.length = 6) {m : Mem} : borrowE T4 113 [.agg (icells r)] m = some (.bool (decide (okB 576 r)), m) :=
  borrowE_of (pures_cons (pureI r) rfl) ((f113 h6).mono fun y m' h => by rw [h]; rfl)
noncomputable def T5 : Env := T4.put 61 (borrowE T4 61)
theorem T5_ok : EnvOk Try.prog T5 := Env.put_ok T4_ok (borrowE_ok T4_ok (callable Try.func61 (by kernel_rfl)))
noncomputable def T6 : Env := T5.put 113 (borrowE T4 113)
theorem T6_ok : EnvOk Try.prog T6 := Env.put_ok T5_ok (borrowE_ok T4_ok (callable Try.func113 (by kernel_rfl)))
def mul12 (r : List Int) : List Int := r.map (· * 12)
theorem mul12_at (r : List Int) (t : Nat) : (mul12 r).getD t 0 = r.getD t 0 * 12 := by
  unfold mul12
  rw [List.getD_eq_getElem?_getD, List.getD_eq_getElem?_getD, List.getElem?_map]
  cases r[t]? <;> simp
def zer6 : List Int := [0, 0, 0, 0, 0, 0]
def ofP (r : List Int) : List Int := if okB 48 r then mul12 r else zer6
theorem f116 {r : List Int} (h6 : r.length = 6) : WF T6 (.func 116 [] []) [.agg (icells r)] ⟨[], []⟩ fun y m' => y = .tuple [.agg (icells (ofP r)), .int .i64 (if okB 48 r then 0 else 1)] := by
  have hml : (icells r).length = 6 := by rw [icells_len, h6]
  have hcut := icells_cut h6
  have c61 := fun m => s61 (m := m) h6
  unfold ofP
  by_cases hv : okB 48 r
  · rw [decide_eq_true hv] at c61
    rw [if_pos hv, if_pos hv]
    refine WF.fnE rfl (fn_of Try.func116 cir116) (by show 1 ≤ 19; decide) ?_
    unfold ir116; dsimp only [k0, kI, mV, oO, oG]
    simp only [padTo, List.replicate, List.nil_append, List.append_nil]
    repeat' (first | (refine WO.opE (by intro; simp (disch := omega) only [go_sem, Zz.look, hcut]; rfl) (by simp only [pt8, pt1, pt2, pt3, pt5, pt7]; rfl) ?_) | (refine WO.specE rfl rfl (c61 _) (by simp only [pt6]; rfl) ?_) | (refine WC.seq ?_) | (refine WC.region ?_) | (refine WO.nil ?_) | (simp only [fl1]) | (refine WC.no rfl ?_) | (refine WC.skip ?_) | (refine WC.block ?_))
    refine WC.loopI (fun m s => ∃ T j w, s = ⟨T, [some ⟨0, icells w⟩, some ⟨0, icells zer6⟩], []⟩ ∧ T.length = 19 ∧ gt T 1 = .pref 0 0 0 ∧ gt T 2 = .pref 1 0 0 ∧ gt T 3 = .int .i64 0 ∧ gt T 9 = .int .i64 (j : Nat) ∧ m + j = 6 ∧ w.length = 6 ∧ (∀ t, t < j → w.getD t 0 = r.getD t 0 * 12) ∧ ∀ t, j ≤ t → w.getD t 0 = r.getD t 0) ?_ 6 _ ⟨_, 0, r, rfl, rfl, rfl, rfl, rfl, rfl, by omega, h6, fun t ht => by omega, fun t _ => rfl⟩
    rintro m _ ⟨T, j, w, rfl, hT, g1, g2, g3, g9, hm, hw6, hw1, hw2⟩
    obtain ⟨f, rfl⟩ := ex19 hT
    clear hT
    replace g1 : f 1 = .pref 0 0 0 := g1
    replace g2 : f 2 = .pref 1 0 0 := g2
    replace g3 : f 3 = .int .i64 0 := g3
    replace g9 : f 9 = .int .i64 (j : Nat) := g9
    simp only [g1, g2, g3, g9]
    by_cases hj : j < 6
    · have hia := icells_at (r := w) (j := j) (by omega)
      rw [hw2 j (Nat.le_refl _)] at hia
      have hov := icells_over (r := w) (j := j) (by omega) (r.getD j 0 * 12)
      have hb := hv j hj
      repeat' (first | (refine WO.opE (by intro; simp (disch := omega) only [go_sem, Zz.look, hia, Nat.mul_one, Nat.zero_add]; rfl) (by simp only [pt8, pt0, pt1, pt2, pt3, pt4, pt5, pt6, pt7]; rfl) ?_) | (refine WO.opN (by intro; simp (disch := omega) only [go_sem, Zz.look, Option.bind_eq_bind, hov, Nat.zero_add, setBlk, List.set_cons_zero]; rfl) ?_) | (refine WC.seq ?_) | (refine WC.region ?_) | (refine WO.nil ?_) | (simp only [fl10]) | (refine WC.skip ?_) | (refine WC.block ?_) | (refine WC.em2 rfl (fun hp => ?_) (fun hp => ?_) <;> try (exfalso; first | omega | contradiction)))
      exact ⟨m - 1, by omega, _, j + 1, w.set j (r.getD j 0 * 12), rfl, rfl, rfl, rfl, rfl, rfl, by omega, by simpa using hw6, fun t ht => by
        by_cases e : t = j
        · subst e; rw [getD_set_self (by omega)]
        · rw [getD_set_ne (by omega)]; exact hw1 t (by omega), fun t ht => by rw [getD_set_ne (by omega)]; exact hw2 t (by omega)⟩
    · have hje : j = 6 := by omega
      subst hje
      have hwe : w = mul12 r := getD_ext (by rw [hw6]; simp [mul12, h6]) fun t ht => by rw [hw1 t (by omega), mul12_at]
      subst hwe
      have hml2 : (icells (mul12 r)).length = 6 := by rw [icells_len, hw6]
      have hcut2 := icells_cut hw6
      have hov := fun x0 x1 x2 x3 x4 x5 => icells_over6 hw6 (x0 := x0) (x1 := x1) (x2 := x2) (x3 := x3) (x4 := x4) (x5 := x5)
      have hze : icells zer6 = [.int .i64 0, .int .i64 0, .int .i64 0, .int .i64 0, .int .i64 0, .int .i64 0] := rfl
      rw [hze]
      repeat' (first | (refine WO.opE (by intro; simp (disch := omega) only [go_sem, Zz.look, hcut2]; rfl) (by simp only [pt8, pt2, pt3]; rfl) ?_) | (refine WO.opN (by intro; simp (disch := omega) only [go_sem, Zz.look, Option.bind_eq_bind, hml2, hov, setBlk, List.set_cons_zero, List.set_cons_succ]; rfl) ?_) | (refine WC.seq ?_) | (refine WC.region ?_) | (refine WO.nil ?_) | (simp only [fl1]) | (refine WC.no rfl ?_) | (refine WC.exit ?_) | (refine WC.ret ?_))
      exact ⟨_, by simp only [evRes, gt2, gt3, Zz.look, List.getElem?_cons_zero, List.getElem?_cons_succ, loadCs, hcut2, if_true, Option.bind_some, Option.map_some]; rfl, rfl⟩
  · rw [decide_eq_false hv] at c61
    rw [if_neg hv, if_neg hv]
    refine WF.fnE rfl (fn_of Try.func116 cir116) (by show 1 ≤ 19; decide) ?_
    unfold ir116; dsimp only [k0, kI, mV, oO, oG]
    simp only [padTo, List.replicate, List.nil_append, List.append_nil]
    repeat' (first | (refine WO.opE (by intro; simp (disch := omega) only [go_sem, Zz.look, fillP, hcut]; rfl) (by simp only [pt8, pt0, pt1, pt2, pt3, pt5, pt7]; rfl) ?_) | (refine WO.opN (by intro; simp (disch := omega) only [go_sem, Zz.look, Option.bind_eq_bind, Nat.reduceAdd, setBlk, List.set_cons_zero, List.set_cons_succ]; rfl) ?_) | (refine WO.specE rfl rfl (c61 _) (by simp only [pt6]; rfl) ?_) | (refine WC.seq ?_) | (refine WC.region ?_) | (refine WO.nil ?_) | (simp only [fl1, fl2]) | (refine WC.yes rfl ?_) | (refine WC.ret ?_))
    exact ⟨_, rfl, rfl⟩
theorem resA_icells (H : Hp) : ∀ r : List Int, Zz.resL H (icells r) = some (icells r)
  | [] => rfl
  | x :: r => by
    have ih := resA_icells H r
    show (match Zz.resC H (.int .i64 x), Zz.resL H (icells r) with | some a, some l => some (a :: l) | _, _ => none) = _
    rw [ih]
    rfl
end Go.Proofs.Ytnilimjkibimcaa

