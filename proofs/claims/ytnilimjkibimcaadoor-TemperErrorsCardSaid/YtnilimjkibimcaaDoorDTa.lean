import Derived.Test.YtnilimjkibimcaaDoorDN
import Derived.Test.YtnilimjkibimcaaDoorDIr
import Derived.Test.YtnilimjkibimcaaDoorDPm
set_option linter.unusedSimpArgs false
set_option linter.unusedVariables false

namespace Go.Proofs.YtnilimjkibimcaaDoor
open Go.Zz
set_option maxRecDepth 100000
set_option maxHeartbeats 4000000
noncomputable def T1 : Env := E21.put 24 (borrowX E1 24)
theorem T1_ok : EnvOk Tryd.prog T1 := Env.put_ok E21_ok (borrowX_ok E1_ok (callable Tryd.func24 (by kernel_rfl)))
noncomputable def T2 : Env := T1.put 25 (borrowR E19 25)
theorem T2_ok : EnvOk Tryd.prog T2 := Env.put_ok T1_ok (borrowR_ok E19_ok (callable Tryd.func25 (by kernel_rfl)))
noncomputable def T3 : Env := T2.put 39 (borrowX E8 39)
theorem T3_ok : EnvOk Tryd.prog T3 := Env.put_ok T2_ok (borrowX_ok E8_ok (callable Tryd.func39 (by kernel_rfl)))
theorem gs_take {sz : Nat} {H : Hp} {v : AV} {q : Nat} {c : List AV} (h : GS sz H v q c) (hf : c.all flatAV = true) (e : Int) (B : Hp) : ∃ new v', takeBlks H (uniq (refs (.tuple [v, .int .i64 e])) []) = some new ∧ renV H (uniq (refs (.tuple [v, .int .i64 e])) []) B.length (.tuple [v, .int .i64 e]) = some (.tuple [v', .int .i64 e]) ∧ GS sz (B ++ new) v' B.length c ∧ Zz.resC (B ++ new) v' = Zz.resC H v := by
  rcases h with ⟨rfl, rfl⟩ | ⟨g, rfl, rfl, hk⟩ | ⟨g, n, rfl, h1, h2, hk⟩
  · exact ⟨[], .snil, rfl, rfl, .inl ⟨rfl, rfl⟩, rfl⟩
  · have hb := look_eq_iff.1 hk
    have hB : Zz.look (B ++ [some ⟨0, []⟩]) B.length 0 = some [] := lk0 rfl
    refine ⟨[some ⟨0, []⟩], .sref B.length 0 0 sz 0 (some 0), ?_, ?_, .inr (.inl ⟨0, rfl, rfl, lk0 rfl⟩), by simp only [Zz.resC, hk, hB]⟩
    · simp [refs, refsT, refsA, refsC, uniq, takeBlks, hb]
    · simp [refs, refsT, refsA, refsC, uniq, renV, renT, renA, renC, findIdx, hk]
  · have hb := look_eq_iff.1 hk
    have hB : Zz.look (B ++ [some ⟨0, c⟩]) B.length 0 = some c := lk0 rfl
    refine ⟨[some ⟨0, c⟩], .sref B.length 0 0 sz n none, ?_, ?_, .inr (.inr ⟨0, n, rfl, h1, h2, lk0 rfl⟩), by simp only [Zz.resC, hk, hB]⟩
    · simp [refs, refsT, refsA, refsC, uniq, takeBlks, hb, hf]
    · simp [refs, refsT, refsA, refsC, uniq, renV, renT, renA, renC, findIdx, hk]
theorem w30 {l : AV} {rows : List (List Int)} (hl : RwL l rows) (hmax : rows.length < 9223372036854775807) : WF E19 (.func 25 [] []) [l] ⟨[], []⟩ fun y m' => ∃ v q, y = .tuple [v, .int .i64 (errC rows)] ∧ GS 6 m'.heap v q (flatR (kernR rows)) := by
  by_cases hv : VM rows
  · unfold kernR errC
    rw [if_pos hv, if_pos hv]
    exact f30 hl hv
  · unfold kernR errC
    rw [if_neg hv, if_neg hv]
    have c25 := fun m => s25 (m := m) hl hmax
    rw [decide_eq_false hv] at c25
    have hlc := hl.cells
    unfold AV.cells at hlc
    refine WF.fnE rfl (fn_of Tryd.func25 cir25) (by show 1 ≤ 138; decide) ?_
    unfold ir25; dsimp only [k0, kI, mV, oO, oG]
    simp only [padTo, List.replicate, List.nil_append, List.append_nil]
    repeat' (first | (refine WO.opE (by intro; simp (disch := omega) only [go_sem]; rfl) (by simp only [pt8, pt2, pt3, pt4, pt6]; rfl) ?_) | (refine WO.specE rfl rfl (c25 _) (by simp only [pt8, pt5]; rfl) ?_) | (refine WC.seq ?_) | (refine WC.region ?_) | (refine WO.nil ?_) | (simp only [fl1, fl2]) | (refine WC.yes rfl ?_) | (refine WC.ret ?_))
    exact ⟨_, rfl, .snil, 0, rfl, .inl ⟨rfl, rfl⟩⟩
theorem kernR_six {rows : List (List Int)} : ∀ r ∈ kernR rows, r.length = 6 := by
  unfold kernR
  split
  · exact kerR_six
  · intro r hr; cases hr
theorem r30 {l : AV} {rows : List (List Int)} (hl : RwL l rows) (hmax : rows.length < 9223372036854775807) : ∃ x, RwL x (kernR rows) ∧ ∀ (B : Hp) (L : List (Option ALoop)), ∃ new v', (∀ l', Zz.byVal B l' = some l → borrowR E19 25 [l'] ⟨B, L⟩ = some (.tuple [v', .int .i64 (errC rows)], ⟨B ++ new, L⟩)) ∧ GS 6 (B ++ new) v' B.length (flatR (kernR rows)) ∧ Zz.resC (B ++ new) v' = some x := by
  obtain ⟨n, y, m', h1, v, q, rfl, h2⟩ := (w30 hl hmax).ex
  obtain ⟨x, hx, hrx⟩ := GS.rows h2 kernR_six
  refine ⟨x, hx, fun B L => ?_⟩
  obtain ⟨new, v', a1, a2, a3, a4⟩ := gs_take h2 (flatR_flat _) (errC rows) B
  exact ⟨new, v', fun l' h0 => borrowR_of (m := ⟨B, L⟩) (byVals_cons h0 rfl) ⟨⟨n, _, m', h1, new, _, a1, a2, rfl⟩⟩, a3, a4.trans hrx⟩
def okB (b : Int) (r : List Int) : Prop := ∀ j, j < 6 → -b ≤ r.getD j 0 ∧ r.getD j 0 ≤ b
instance (b : Int) (r : List Int) : Decidable (okB b r) := by unfold okB; infer_instance
theorem pureI (r : List Int) : Zz.pureA (.agg (icells r)) = true := by
  show (icells r).all Zz.pureC = true
  unfold icells
  rw [List.all_map]
  exact List.all_eq_true.2 fun _ _ => rfl
theorem f117 {r : List Int} {b : Int} (h6 : r.length = 6) (hb : 0 ≤ b ∧ b ≤ 1000) : WF T3 (.func 27 [] []) [.agg (icells r), .int .i64 b] ⟨[], []⟩ fun y m' => y = .bool (decide (okB b r)) := by
  have hml : (icells r).length = 6 := by rw [icells_len, h6]
  have hcut := icells_cut h6
  refine WF.fnE rfl (fn_of Tryd.func27 cir27) (by show 2 ≤ 21; decide) ?_
  unfold ir27; dsimp only [k0, kI, mV, oO, oG]
  simp only [padTo, List.replicate, List.nil_append, List.append_nil]
  repeat' (first | (refine WO.opE (by intro; simp (disch := omega) only [go_sem, Zz.look, hcut]; rfl) (by simp only [pt8, pt0, pt2, pt4, pt7]; rfl) ?_) | (refine WC.seq ?_) | (refine WC.region ?_) | (refine WO.nil ?_) | (simp only [fl1]) | (refine WC.block ?_))
  refine WC.loopI (fun m s => ∃ T j, s = ⟨T, [some ⟨0, icells r⟩], []⟩ ∧ T.length = 21 ∧ gt T 1 = .int .i64 b ∧ gt T 7 = .agg (icells r) ∧ gt T 8 = .int .i64 (j : Nat) ∧ m + j = 6 ∧ ∀ t, t < j → -b ≤ r.getD t 0 ∧ r.getD t 0 ≤ b) ?_ 6 _ ⟨_, 0, rfl, rfl, rfl, rfl, rfl, by omega, fun t ht => by omega⟩
  rintro m _ ⟨T, j, rfl, hT, g1, g7, g8, hm, hz⟩
  obtain ⟨f, rfl⟩ := ex21 hT
  clear hT
  replace g1 : f 1 = .int .i64 b := g1
  replace g7 : f 7 = .agg (icells r) := g7
  replace g8 : f 8 = .int .i64 (j : Nat) := g8
  simp only [g1, g7, g8]
  by_cases hj : j < 6
  · have hia := icells_at (r := r) (j := j) (by omega)
    generalize hx : r.getD j 0 = x at *
    by_cases hxb : -b ≤ x ∧ x ≤ b
    · have hxb1 := hxb
      repeat' (first | (refine WO.yes rfl ?_) | (refine WO.opE (by intro; simp (disch := omega) only [go_sem, hia, Nat.mul_one, Int.zero_sub]; rfl) (by simp only [pt8, pt0, pt1, pt2, pt3, pt4, pt5, pt6, pt7]; rfl) ?_) | (refine WC.seq ?_) | (refine WC.region ?_) | (refine WO.nil ?_) | (simp only [fl1, fl10]) | (refine WC.skip ?_) | (refine WC.block ?_) | (refine WO.em2 rfl (by intro hp; simp only [hp, decide_true]; rfl) (by intro hp; simp only [hp, decide_false]; rfl) (fun hp => ?_) (fun hp => ?_) <;> try (exfalso; first | omega | contradiction)) | (refine WC.em2 rfl (fun hp => ?_) (fun hp => ?_) <;> try (exfalso; first | omega | contradiction)))
      exact ⟨m - 1, by omega, _, j + 1, rfl, rfl, rfl, rfl, rfl, by omega, fun t ht => by
        by_cases e : t = j
        · subst e; rw [hx]; exact hxb
        · exact hz t (by omega)⟩
    · have hxb1 := hxb
      have hd : decide (okB b r) = false := decide_eq_false fun h => hxb (by have := h j hj; rw [hx] at this; exact this)
      repeat' (first | (refine WO.yes rfl ?_) | (refine WO.noE rfl (by simp only [pt8, pt0, pt1, pt2]; rfl) ?_) | (refine WO.opE (by intro; simp (disch := omega) only [go_sem, hia, Nat.mul_one, Int.zero_sub]; rfl) (by simp only [pt8, pt0, pt1, pt2, pt3, pt4, pt5, pt6, pt7]; rfl) ?_) | (refine WC.seq ?_) | (refine WC.region ?_) | (refine WO.nil ?_) | (simp only [fl1, fl2, fl5, fl8]) | (refine WC.yes rfl ?_) | (refine WC.skip ?_) | (refine WC.ret ?_) | (refine WC.block ?_) | (refine WO.em2 rfl (by intro hp; simp only [hp, decide_true]; rfl) (by intro hp; simp only [hp, decide_false]; rfl) (fun hp => ?_) (fun hp => ?_) <;> try (exfalso; first | omega | contradiction)) | (refine WC.em2 rfl (fun hp => ?_) (fun hp => ?_) <;> try (exfalso; first | omega | contradiction)))
      all_goals exact ⟨_, rfl, by rw [hd]; rfl⟩
  · have hje : j = 6 := by omega
    subst hje
    have hd : decide (okB b r) = true := decide_eq_true hz
    repeat' (first | (refine WO.opE (by intro; simp (disch := omega) only [go_sem]; rfl) (by simp only [pt8, pt1, pt4]; rfl) ?_) | (refine WC.seq ?_) | (refine WC.region ?_) | (refine WO.nil ?_) | (simp only [fl1]) | (refine WC.no rfl ?_) | (refine WC.exit ?_) | (refine WC.ret ?_))
    exact ⟨_, rfl, by rw [hd]; rfl⟩
theorem s117 {r : List Int} {b : Int} (h6 : r.length = 6) (hb : 0 ≤ b ∧ b ≤ 1000) {m : Mem} : borrowE T3 27 [.agg (icells r), .int .i64 b] m = some (.bool (decide (okB b r)), m) :=
  borrowE_of (pures_cons (pureI r) rfl) ((f117 h6 hb).mono fun y m' h => by rw [h]; rfl)
noncomputable def T4 : Env := T3.put 27 (borrowE T3 27)
theorem T4_ok : EnvOk Tryd.prog T4 := Env.put_ok T3_ok (borrowE_ok T3_ok (callable Tryd.func27 (by kernel_rfl)))
theorem f61 {r : List Int} (h6 : r.length = 6) : WF T4 (.func 18 [] []) [.agg (icells r)] ⟨[], []⟩ fun y m' => y = .bool (decide (okB 48 r)) := by
  have hml : (icells r).length = 6 := by rw [icells_len, h6]
  have hcut := icells_cut h6
  have c117 := fun m => s117 (m := m) (b := 48) h6 (by decide)
  refine WF.fnE rfl (fn_of Tryd.func18 cir18) (by show 1 ≤ 5; decide) ?_
  unfold ir18; dsimp only [k0, kI, mV, oO, oG]
  simp only [padTo, List.replicate, List.nil_append, List.append_nil]
  repeat' (first | (refine WO.opE (by intro; simp (disch := omega) only [go_sem, Zz.look, hcut]; rfl) (by simp only [pt1, pt2, pt3]; rfl) ?_) | (refine WO.specE rfl rfl (c117 _) (by simp only [pt4]; rfl) ?_) | (refine WC.seq ?_) | (refine WC.region ?_) | (refine WO.nil ?_) | (simp only [fl1]) | (refine WC.ret ?_))
  exact ⟨_, rfl, rfl⟩
theorem s61 {r : List Int} (h6 : r.length = 6) {m : Mem} : borrowE T4 18 [.agg (icells r)] m = some (.bool (decide (okB 48 r)), m) :=
  borrowE_of (pures_cons (pureI r) rfl) ((f61 h6).mono fun y m' h => by rw [h]; rfl)
theorem f113 {r : List Int} (h6 : r.length = 6) : WF T4 (.func 19 [] []) [.agg (icells r)] ⟨[], []⟩ fun y m' => y = .bool (decide (okB 576 r)) := by
  have hml : (icells r).length = 6 := by rw [icells_len, h6]
  have hcut := icells_cut h6
  have c117 := fun m => s117 (m := m) (b := 576) h6 (by decide)
  refine WF.fnE rfl (fn_of Tryd.func19 cir19) (by show 1 ≤ 5; decide) ?_
  unfold ir19; dsimp only [k0, kI, mV, oO, oG]
  simp only [padTo, List.replicate, List.nil_append, List.append_nil]
  repeat' (first | (refine WO.opE (by intro; simp (disch := omega) only [go_sem, Zz.look, hcut]; rfl) (by simp only [pt1, pt2, pt3]; rfl) ?_) | (refine WO.specE rfl rfl (c117 _) (by simp only [pt4]; rfl) ?_) | (refine WC.seq ?_) | (refine WC.region ?_) | (refine WO.nil ?_) | (simp only [fl1]) | (refine WC.ret ?_))
  exact ⟨_, rfl, rfl⟩
theorem s113 {r : List Int} (h6 : r.length = 6) {m : Mem} : borrowE T4 19 [.agg (icells r)] m = some (.bool (decide (okB 576 r)), m) :=
  borrowE_of (pures_cons (pureI r) rfl) ((f113 h6).mono fun y m' h => by rw [h]; rfl)
noncomputable def T5 : Env := T4.put 18 (borrowE T4 18)
theorem T5_ok : EnvOk Tryd.prog T5 := Env.put_ok T4_ok (borrowE_ok T4_ok (callable Tryd.func18 (by kernel_rfl)))
noncomputable def T6 : Env := T5.put 19 (borrowE T4 19)
theorem T6_ok : EnvOk Tryd.prog T6 := Env.put_ok T5_ok (borrowE_ok T4_ok (callable Tryd.func19 (by kernel_rfl)))
def mul12 (r : List Int) : List Int := r.map (· * 12)
theorem mul12_at (r : List Int) (t : Nat) : (mul12 r).getD t 0 = r.getD t 0 * 12 := by
  unfold mul12
  rw [List.getD_eq_getElem?_getD, List.getD_eq_getElem?_getD, List.getElem?_map]
  cases r[t]? <;> simp
def zer6 : List Int := [0, 0, 0, 0, 0, 0]
def ofP (r : List Int) : List Int := if okB 48 r then mul12 r else zer6
theorem f116 {r : List Int} (h6 : r.length = 6) : WF T6 (.func 7 [] []) [.agg (icells r)] ⟨[], []⟩ fun y m' => y = .tuple [.agg (icells (ofP r)), .int .i64 (if okB 48 r then 0 else 1)] := by
  have hml : (icells r).length = 6 := by rw [icells_len, h6]
  have hcut := icells_cut h6
  have c61 := fun m => s61 (m := m) h6
  unfold ofP
  by_cases hv : okB 48 r
  · rw [decide_eq_true hv] at c61
    rw [if_pos hv, if_pos hv]
    refine WF.fnE rfl (fn_of Tryd.func7 cir7) (by show 1 ≤ 19; decide) ?_
    unfold ir7; dsimp only [k0, kI, mV, oO, oG]
    simp only [padTo, List.replicate, List.nil_append, List.append_nil]
    repeat' (first | (refine WO.opE (by intro; simp (disch := omega) only [go_sem, Zz.look, hcut]; rfl) (by simp only [pt8, pt1, pt2, pt3, pt5, pt7]; rfl) ?_) | (refine WO.specE rfl rfl (c61 _) (by simp only [pt6]; rfl) ?_) | (refine WC.seq ?_) | (refine WC.region ?_) | (refine WO.nil ?_) | (simp only [fl1]) | (refine WC.no rfl ?_) | (refine WC.skip ?_) | (refine WC.block ?_))
    refine WC.loopI (fun m s => ∃ T j w, s = ⟨T, [some ⟨0, icells w⟩, some ⟨0, icells zer6⟩], []⟩ ∧ T.length = 19 ∧ gt T 1 = .pref 0 0 0 ∧ gt T 2 = .pref 1 0 0 ∧ gt T 3 = .int .i64 0 ∧ gt T 9 = .int .i64 (j : Nat) ∧ m + j = 6 ∧ w.length = 6 ∧ (∀ t, t < j → w.getD t 0 = r.getD t 0 * 12) ∧ ∀ t, j ≤ t → w.getD t 0 = r.getD t 0) ?_ 6 _ ⟨_, 0, r, rfl, rfl, rfl, rfl, rfl, rfl, by omega, h6, fun t ht => by omega, fun t _ => rfl⟩
    rintro m _ ⟨T, j, w, rfl, hT, g1, g2, g3, g9, hm, hw6, hw1, hw2⟩
    obtain ⟨f, rfl⟩ := ex19 hT
    clear hT
    replace g1 : f 1 = .pref 0 0 0 := g1
    replace g2 : f 2 = .pref 1 0 0 := g2
    replace g3 : f 3 = .int .i64 0 := g3
    replace g9 : f 9 = .int .i64 (j : Nat) := g9
    simp only [g1, g2, g3, g9]
    by_cases hj : j < 6
    · have hia := icells_at (r := w) (j := j) (by omega)
      rw [hw2 j (Nat.le_refl _)] at hia
      have hov := icells_over (r := w) (j := j) (by omega) (r.getD j 0 * 12)
      have hb := hv j hj
      repeat' (first | (refine WO.opE (by intro; simp (disch := omega) only [go_sem, Zz.look, hia, Nat.mul_one, Nat.zero_add]; rfl) (by simp only [pt8, pt0, pt1, pt2, pt3, pt4, pt5, pt6, pt7]; rfl) ?_) | (refine WO.opN (by intro; simp (disch := omega) only [go_sem, Zz.look, Option.bind_eq_bind, hov, Nat.zero_add, setBlk, List.set_cons_zero]; rfl) ?_) | (refine WC.seq ?_) | (refine WC.region ?_) | (refine WO.nil ?_) | (simp only [fl10]) | (refine WC.skip ?_) | (refine WC.block ?_) | (refine WC.em2 rfl (fun hp => ?_) (fun hp => ?_) <;> try (exfalso; first | omega | contradiction)))
      exact ⟨m - 1, by omega, _, j + 1, w.set j (r.getD j 0 * 12), rfl, rfl, rfl, rfl, rfl, rfl, by omega, by simpa using hw6, fun t ht => by
        by_cases e : t = j
        · subst e; rw [getD_set_self (by omega)]
        · rw [getD_set_ne (by omega)]; exact hw1 t (by omega), fun t ht => by rw [getD_set_ne (by omega)]; exact hw2 t (by omega)⟩
    · have hje : j = 6 := by omega
      subst hje
      have hwe : w = mul12 r := getD_ext (by rw [hw6]; simp [mul12, h6]) fun t ht => by rw [hw1 t (by omega), mul12_at]
      subst hwe
      have hml2 : (icells (mul12 r)).length = 6 := by rw [icells_len, hw6]
      have hcut2 := icells_cut hw6
      have hov := fun x0 x1 x2 x3 x4 x5 => icells_over6 hw6 (x0 := x0) (x1 := x1) (x2 := x2) (x3 := x3) (x4 := x4) (x5 := x5)
      have hze : icells zer6 = [.int .i64 0, .int .i64 0, .int .i64 0, .int .i64 0, .int .i64 0, .int .i64 0] := rfl
      rw [hze]
      repeat' (first | (refine WO.opE (by intro; simp (disch := omega) only [go_sem, Zz.look, hcut2]; rfl) (by simp only [pt8, pt2, pt3]; rfl) ?_) | (refine WO.opN (by intro; simp (disch := omega) only [go_sem, Zz.look, Option.bind_eq_bind, hml2, hov, setBlk, List.set_cons_zero, List.set_cons_succ]; rfl) ?_) | (refine WC.seq ?_) | (refine WC.region ?_) | (refine WO.nil ?_) | (simp only [fl1]) | (refine WC.no rfl ?_) | (refine WC.exit ?_) | (refine WC.ret ?_))
      exact ⟨_, by simp only [evRes, gt2, gt3, Zz.look, List.getElem?_cons_zero, List.getElem?_cons_succ, loadCs, hcut2, if_true, Option.bind_some, Option.map_some]; rfl, rfl⟩
  · rw [decide_eq_false hv] at c61
    rw [if_neg hv, if_neg hv]
    refine WF.fnE rfl (fn_of Tryd.func7 cir7) (by show 1 ≤ 19; decide) ?_
    unfold ir7; dsimp only [k0, kI, mV, oO, oG]
    simp only [padTo, List.replicate, List.nil_append, List.append_nil]
    repeat' (first | (refine WO.opE (by intro; simp (disch := omega) only [go_sem, Zz.look, fillP, hcut]; rfl) (by simp only [pt8, pt0, pt1, pt2, pt3, pt5, pt7]; rfl) ?_) | (refine WO.opN (by intro; simp (disch := omega) only [go_sem, Zz.look, Option.bind_eq_bind, Nat.reduceAdd, setBlk, List.set_cons_zero, List.set_cons_succ]; rfl) ?_) | (refine WO.specE rfl rfl (c61 _) (by simp only [pt6]; rfl) ?_) | (refine WC.seq ?_) | (refine WC.region ?_) | (refine WO.nil ?_) | (simp only [fl1, fl2]) | (refine WC.yes rfl ?_) | (refine WC.ret ?_))
    exact ⟨_, rfl, rfl⟩
theorem resA_icells (H : Hp) : ∀ r : List Int, Zz.resL H (icells r) = some (icells r)
  | [] => rfl
  | x :: r => by
    have ih := resA_icells H r
    show (match Zz.resC H (.int .i64 x), Zz.resL H (icells r) with | some a, some l => some (a :: l) | _, _ => none) = _
    rw [ih]
    rfl
set_option maxRecDepth 100000
set_option maxHeartbeats 4000000
def VT (rows : List (List Int)) : Prop := (1 ≤ rows.length ∧ rows.length ≤ 3) ∧ (∀ i, i < rows.length → okB 400 (rw_ rows i)) ∧ VM rows ∧ rankF rows = rows.length
instance (rows : List (List Int)) : Decidable (VT rows) := by unfold VT; infer_instance
theorem RwL.byC {x : AV} {rows : List (List Int)} (h : RwL x rows) (H : Hp) : Zz.byC H x = some x := by
  have this := h.byVal H
  obtain ⟨_, ⟨rfl, _⟩ | ⟨f, rfl⟩⟩ := h <;> exact this
theorem byMap {H : Hp} {l l' : AV} (h : Zz.byC H l' = some l) : Zz.byVal H (.agg [l']) = some (.agg [l]) := by
  simp only [Zz.byVal, Zz.byL, h]
theorem pureM {l : AV} {rows : List (List Int)} (h : RwL l rows) : Zz.pureA (.agg [l]) = true := by
  show [l].all Zz.pureC = true
  simp [h.pureC]
theorem f109 {l : AV} {rows : List (List Int)} (hl : RwL l rows) (hmax : rows.length < 9223372036854775807) : WF T6 (.func 26 [] []) [.agg [l]] ⟨[], []⟩ fun y m' => y = .bool (decide (VT rows)) := by
  have hll := hl.len
  have hlc := hl.cells
  unfold AV.cells at hlc
  have c35 := fun m => x35 (m := m) (l' := l) hl hmax (hl.byVal _)
  by_cases h3 : 1 ≤ rows.length ∧ rows.length ≤ 3
  · have h31 := h3
    refine WF.fnE rfl (fn_of Tryd.func26 cir26) (by show 1 ≤ 58; decide) ?_
    unfold ir26; dsimp only [k0, kI, mV, oO, oG]
    simp only [padTo, List.replicate, List.nil_append, List.append_nil]
    repeat' (first | (refine WO.yes rfl ?_) | (refine WO.opE (by intro; simp (disch := omega) only [go_sem, Zz.look]; rfl) (by simp only [pt8, pt0, pt1, pt2, pt3, pt4, pt5, pt6, pt7]; rfl) ?_) | (refine WO.opE (by intro; exact ev_lenS (by simp only [go_sem]; first | rfl | assumption)) (by simp only [pt8, pt0, pt2, pt4]; rfl) ?_) | (refine WC.seq ?_) | (refine WC.region ?_) | (refine WO.nil ?_) | (simp only [fl1]) | (refine WC.skip ?_) | (refine WC.block ?_) | (refine WO.em2 rfl (by intro hp; simp only [hp, decide_true]; rfl) (by intro hp; simp only [hp, decide_false]; rfl) (fun hp => ?_) (fun hp => ?_) <;> try (exfalso; first | omega | contradiction)) | (refine WC.em2 rfl (fun hp => ?_) (fun hp => ?_) <;> try (exfalso; first | omega | contradiction)))
    refine WC.loopI (fun m s => ∃ T R i, s = ⟨T, R, []⟩ ∧ T.length = 58 ∧ gt T 1 = .pref 0 0 0 ∧ gt T 23 = l ∧ gt T 24 = .int .i64 (rows.length : Nat) ∧ gt T 25 = .int .i64 (i : Nat) ∧ m + i = rows.length ∧ Zz.look R 0 0 = some [l] ∧ ∀ t, t < i → okB 400 (rw_ rows t)) ?_ rows.length _ ⟨_, _, 0, rfl, rfl, rfl, rfl, rfl, rfl, by omega, rfl, fun t ht => by omega⟩
    rintro m _ ⟨T, R, i, rfl, hT, g1, g23, g24, g25, hm, k0, hz⟩
    obtain ⟨f, rfl⟩ := ex58 hT
    clear hT
    replace g1 : f 1 = .pref 0 0 0 := g1
    replace g23 : f 23 = l := g23
    replace g24 : f 24 = .int .i64 (rows.length : Nat) := g24
    replace g25 : f 25 = .int .i64 (i : Nat) := g25
    simp only [g1, g23, g24, g25]
    by_cases hi : i < rows.length
    · have h6 := hl.six hi
      have hat := hl.at hi
      have hcut := cut_row (t := tailr rows i) h6
      have hov := fun x0 x1 x2 x3 x4 x5 => icells_over6 h6 (x0 := x0) (x1 := x1) (x2 := x2) (x3 := x3) (x4 := x4) (x5 := x5)
      have hcr : (rw_ rows i).map (AV.int .i64) = icells (rw_ rows i) := rfl
      rw [hcr] at hat hcut
      have hml : (icells (rw_ rows i)).length = 6 := by rw [icells_len, h6]
      have hcut0 := icells_cut h6
      have kG : Zz.look (R ++ [some ⟨0, icells (rw_ rows i)⟩]) 0 0 = some [l] := (look_left (look_lt k0)).trans k0
      repeat' (first | (refine WO.opE (by intro; simp (disch := omega) only [go_sem, hat, hcut, hcut0, lk0]; rfl) (by simp only [pt8, pt2, pt3, pt4, pt5, pt6]; rfl) ?_) | (refine WO.opN (by intro; simp (disch := omega) only [go_sem, Option.bind_eq_bind, app_s0, hov, hml, lk0]; rfl) ?_) | (refine WC.seq ?_) | (refine WC.region ?_) | (refine WO.nil ?_) | (simp only [fl1]) | (refine WC.skip ?_) | (refine WC.block ?_) | (refine WC.em2 rfl (fun hp => ?_) (fun hp => ?_) <;> try (exfalso; first | omega | contradiction)))
      refine WC.loopI (fun m2 s => ∃ T j, s = ⟨T, R ++ [some ⟨0, icells (rw_ rows i)⟩], []⟩ ∧ T.length = 58 ∧ gt T 1 = .pref 0 0 0 ∧ gt T 23 = l ∧ gt T 24 = .int .i64 (rows.length : Nat) ∧ gt T 25 = .int .i64 (i : Nat) ∧ gt T 29 = .agg (icells (rw_ rows i)) ∧ gt T 30 = .int .i64 (j : Nat) ∧ m2 + j = 6 ∧ ∀ t, t < j → -400 ≤ (rw_ rows i).getD t 0 ∧ (rw_ rows i).getD t 0 ≤ 400) ?_ 6 _ ⟨_, 0, rfl, rfl, rfl, rfl, rfl, rfl, rfl, rfl, by omega, fun t ht => by omega⟩
      clear g1 g23 g24 g25 f
      rintro m2 _ ⟨T, j, rfl, hT, g1, g23, g24, g25, g29, g30, hm2, hz2⟩
      obtain ⟨f, rfl⟩ := ex58 hT
      clear hT
      replace g1 : f 1 = .pref 0 0 0 := g1
      replace g23 : f 23 = l := g23
      replace g24 : f 24 = .int .i64 (rows.length : Nat) := g24
      replace g25 : f 25 = .int .i64 (i : Nat) := g25
      replace g29 : f 29 = .agg (icells (rw_ rows i)) := g29
      replace g30 : f 30 = .int .i64 (j : Nat) := g30
      simp only [g1, g23, g24, g25, g29, g30]
      by_cases hj : j < 6
      · have hia := icells_at (r := rw_ rows i) (j := j) (by omega)
        generalize hx : (rw_ rows i).getD j 0 = x at *
        by_cases hxb : -400 ≤ x ∧ x ≤ 400
        · have hxb1 := hxb
          repeat' (first | (refine WO.yes rfl ?_) | (refine WO.opE (by intro; simp (disch := omega) only [go_sem, Int.reduceNeg, Int.reduceAdd, hia, Nat.mul_one]; rfl) (by simp only [pt8, pt0, pt1, pt2, pt3, pt4, pt5, pt6, pt7]; rfl) ?_) | (refine WC.seq ?_) | (refine WC.region ?_) | (refine WO.nil ?_) | (simp only [fl1, fl10]) | (refine WC.skip ?_) | (refine WC.block ?_) | (refine WO.em2 rfl (by intro hp; simp only [hp, decide_true]; rfl) (by intro hp; simp only [hp, decide_false]; rfl) (fun hp => ?_) (fun hp => ?_) <;> try (exfalso; first | omega | contradiction)) | (refine WC.em2 rfl (fun hp => ?_) (fun hp => ?_) <;> try (exfalso; first | omega | contradiction)))
          exact ⟨m2 - 1, by omega, _, j + 1, rfl, rfl, rfl, rfl, rfl, rfl, rfl, rfl, by omega, fun t ht => by
            by_cases e : t = j
            · subst e; rw [hx]; exact hxb
            · exact hz2 t (by omega)⟩
        · have hxb1 := hxb
          have hd : decide (VT rows) = false := decide_eq_false fun h => hxb (by have := h.2.1 i hi j hj; rw [hx] at this; exact this)
          repeat' (first | (refine WO.yes rfl ?_) | (refine WO.noE rfl (by simp only [pt8, pt4, pt5]; rfl) ?_) | (refine WO.opE (by intro; simp (disch := omega) only [go_sem, Int.reduceNeg, Int.reduceAdd, hia, Nat.mul_one]; rfl) (by simp only [pt8, pt0, pt1, pt2, pt3, pt4, pt5, pt6, pt7]; rfl) ?_) | (refine WC.seq ?_) | (refine WC.region ?_) | (refine WO.nil ?_) | (simp only [fl1, fl2, fl5, fl8]) | (refine WC.yes rfl ?_) | (refine WC.skip ?_) | (refine WC.ret ?_) | (refine WC.block ?_) | (refine WO.em2 rfl (by intro hp; simp only [hp, decide_true]; rfl) (by intro hp; simp only [hp, decide_false]; rfl) (fun hp => ?_) (fun hp => ?_) <;> try (exfalso; first | omega | contradiction)) | (refine WC.em2 rfl (fun hp => ?_) (fun hp => ?_) <;> try (exfalso; first | omega | contradiction)))
          all_goals exact ⟨_, rfl, by rw [hd]; rfl⟩
      · have hje : j = 6 := by omega
        subst hje
        repeat' (first | (refine WO.opE (by intro; simp (disch := omega) only [go_sem]; rfl) (by simp only [pt8, pt0, pt1, pt7]; rfl) ?_) | (refine WC.seq ?_) | (refine WC.region ?_) | (refine WO.nil ?_) | (simp only [fl10]) | (refine WC.no rfl ?_) | (refine WC.exit ?_))
        exact ⟨m - 1, by omega, _, _, i + 1, rfl, rfl, rfl, rfl, rfl, rfl, by omega, kG, fun t ht => by
          by_cases e : t = i
          · subst e; exact hz2
          · exact hz t (by omega)⟩
    · have hie : i = rows.length := by omega
      subst hie
      by_cases hv : VM rows
      · rw [if_pos hv, if_pos hv] at c35
        have hvt : VT rows ↔ rankF rows = rows.length := ⟨fun h => h.2.2.2, fun h => ⟨h3, hz, hv, h⟩⟩
        repeat' (first | (refine WO.yes rfl ?_) | (refine WO.opE (by intro; simp (disch := omega) only [go_sem, k0]; rfl) (by simp only [pt8, pt0, pt1, pt2, pt3, pt4, pt5, pt6, pt7]; rfl) ?_) | (refine WO.opE (by intro; exact ev_lenS (by simp only [go_sem]; first | rfl | assumption)) (by simp only [pt8, pt7]; rfl) ?_) | (refine WO.specE rfl rfl (c35 _) (by simp only [pt8, pt5]; rfl) ?_) | (refine WC.seq ?_) | (refine WC.region ?_) | (refine WO.nil ?_) | (simp only [fl1]) | (refine WC.exit ?_) | (refine WC.ret ?_) | (refine WC.em2 rfl (fun hp => ?_) (fun hp => ?_) <;> try (exfalso; first | omega | contradiction)))
        refine ⟨_, rfl, ?_⟩
        simp only [oneRes, gt2, AV.bool.injEq]
        rw [decide_eq_decide, hvt]
        omega
      · rw [if_neg hv, if_neg hv] at c35
        have hd : decide (VT rows) = false := decide_eq_false fun h => hv h.2.2.1
        repeat' (first | (refine WO.noE rfl (by simp only [pt8, pt0, pt3, pt4, pt5, pt6, pt7]; rfl) ?_) | (refine WO.opE (by intro; simp (disch := omega) only [go_sem, k0]; rfl) (by simp only [pt8, pt0, pt1, pt2, pt3, pt4, pt6, pt7]; rfl) ?_) | (refine WO.specE rfl rfl (c35 _) (by simp only [pt8, pt5]; rfl) ?_) | (refine WC.seq ?_) | (refine WC.region ?_) | (refine WO.nil ?_) | (simp only [fl1]) | (refine WC.exit ?_) | (refine WC.ret ?_) | (refine WC.em2 rfl (fun hp => ?_) (fun hp => ?_) <;> try (exfalso; first | omega | contradiction)))
        exact ⟨_, rfl, by rw [hd]; rfl⟩
  · have h31 := h3
    have hd : decide (VT rows) = false := decide_eq_false fun h => h3 h.1
    refine WF.fnE rfl (fn_of Tryd.func26 cir26) (by show 1 ≤ 58; decide) ?_
    unfold ir26; dsimp only [k0, kI, mV, oO, oG]
    simp only [padTo, List.replicate, List.nil_append, List.append_nil]
    repeat' (first | (refine WO.yes rfl ?_) | (refine WO.noE rfl (by simp only [pt8, pt0, pt1, pt2, pt3, pt7]; rfl) ?_) | (refine WO.opE (by intro; simp (disch := omega) only [go_sem, Zz.look]; rfl) (by simp only [pt8, pt0, pt1, pt2, pt3, pt4, pt5, pt6, pt7]; rfl) ?_) | (refine WO.opE (by intro; exact ev_lenS (by simp only [go_sem]; first | rfl | assumption)) (by simp only [pt8, pt2, pt4]; rfl) ?_) | (refine WC.seq ?_) | (refine WC.region ?_) | (refine WO.nil ?_) | (simp only [fl1, fl2]) | (refine WC.yes rfl ?_) | (refine WC.ret ?_) | (refine WO.em2 rfl (by intro hp; simp only [hp, decide_true]; rfl) (by intro hp; simp only [hp, decide_false]; rfl) (fun hp => ?_) (fun hp => ?_) <;> try (exfalso; first | omega | contradiction)) | (refine WC.em2 rfl (fun hp => ?_) (fun hp => ?_) <;> try (exfalso; first | omega | contradiction)))
    all_goals exact ⟨_, rfl, by rw [hd]; rfl⟩
theorem s109 {l : AV} {rows : List (List Int)} (hl : RwL l rows) (hmax : rows.length < 9223372036854775807) {m : Mem} : borrowE T6 26 [.agg [l]] m = some (.bool (decide (VT rows)), m) :=
  borrowE_of (pures_cons (pureM hl) rfl) ((f109 hl hmax).mono fun y m' h => by rw [h]; rfl)
noncomputable def T7 : Env := T6.put 26 (borrowE T6 26)
theorem T7_ok : EnvOk Tryd.prog T7 := Env.put_ok T6_ok (borrowE_ok T6_ok (callable Tryd.func26 (by kernel_rfl)))
theorem f45 {l : AV} {rows : List (List Int)} (hl : RwL l rows) (hmax : rows.length < 9223372036854775807) : WF T7 (.func 17 [] []) [.agg [l]] ⟨[], []⟩ fun y m' => y = .bool (decide (VT rows)) := by
  have hlc := hl.cells
  unfold AV.cells at hlc
  have c109 := fun m => s109 (m := m) hl hmax
  refine WF.fnE rfl (fn_of Tryd.func17 cir17) (by show 1 ≤ 6; decide) ?_
  unfold ir17; dsimp only [k0, kI, mV, oO, oG]
  simp only [padTo, List.replicate, List.nil_append, List.append_nil]
  repeat' (first | (refine WO.opE (by intro; simp (disch := omega) only [go_sem, Zz.look, Zz.over, Zz.cut, fillP, Option.bind_eq_bind, Nat.reduceLeDiff]; rfl) (by simp only [pt1, pt2, pt3, pt4]; rfl) ?_) | (refine WO.specE rfl rfl (c109 _) (by simp only [pt5]; rfl) ?_) | (refine WC.seq ?_) | (refine WC.region ?_) | (refine WO.nil ?_) | (simp only [fl1]) | (refine WC.ret ?_))
  exact ⟨_, rfl, rfl⟩
theorem x45 {l l' : AV} {rows : List (List Int)} (hl : RwL l rows) (hmax : rows.length < 9223372036854775807) {m : Mem} (h0 : Zz.byC m.heap l' = some l) : borrowX T7 17 [.agg [l']] m = some (.bool (decide (VT rows)), m) :=
  borrowX_of (byVals_cons (byMap h0) rfl) ((f45 hl hmax).mono fun y m' h => by rw [h]; rfl)
noncomputable def T8 : Env := T7.put 17 (borrowX T7 17)
theorem T8_ok : EnvOk Tryd.prog T8 := Env.put_ok T7_ok (borrowX_ok T7_ok (callable Tryd.func17 (by kernel_rfl)))
set_option maxRecDepth 100000
set_option maxHeartbeats 8000000
theorem f49 {x y : AV} {a b : List Int} (hx : IntS x a) (hy : IntS y b) (ha : a.length < 1000000) : WF T3 (.func 15 [] []) [x, y] ⟨[], []⟩ fun v m' => v = .bool (decide (a = b)) := by
  have hxl := hx.len
  have hyl := hy.len
  by_cases hl : a.length = b.length
  · have hl1 : (a.length : Int) = (b.length : Int) := by omega
    refine WF.fnE rfl (fn_of Tryd.func15 cir15) (by show 2 ≤ 26; decide) ?_
    unfold ir15; dsimp only [k0, kI, mV, oO, oG]
    simp only [padTo, List.replicate, List.nil_append, List.append_nil]
    repeat' (first | (refine WO.opE (by intro; simp (disch := omega) only [go_sem, hl1]; rfl) (by simp only [pt8, pt0, pt2, pt4, pt5, pt6]; rfl) ?_) | (refine WO.opE (by intro; exact ev_lenS (by simp only [go_sem]; first | rfl | assumption)) (by simp only [pt8, pt1, pt7]; rfl) ?_) | (refine WC.seq ?_) | (refine WC.region ?_) | (refine WO.nil ?_) | (simp only [fl1]) | (refine WC.no rfl ?_) | (refine WC.skip ?_) | (refine WC.block ?_))
    refine WC.loopI (fun m s => ∃ T i, s = ⟨T, [], []⟩ ∧ T.length = 26 ∧ gt T 0 = x ∧ gt T 1 = y ∧ gt T 5 = .int .i64 (i : Nat) ∧ m + i = a.length ∧ ∀ t, t < i → a.getD t 0 = b.getD t 0) ?_ a.length _ ⟨_, 0, rfl, rfl, rfl, rfl, rfl, by omega, fun t ht => by omega⟩
    rintro m _ ⟨T, i, rfl, hT, g0, g1, g5, hm, hi⟩
    obtain ⟨f, rfl⟩ := ex26 hT
    clear hT
    replace g0 : f 0 = x := g0
    replace g1 : f 1 = y := g1
    replace g5 : f 5 = .int .i64 (i : Nat) := g5
    simp only [g0, g1, g5]
    by_cases hin : i < a.length
    · have hat := hx.atI (i := (i : Int)) (by omega) (by omega)
      have hbt := hy.atI (i := (i : Int)) (by omega) (by omega)
      rw [toNat_cast] at hat hbt
      by_cases he : a.getD i 0 = b.getD i 0
      · rw [← he] at hbt
        repeat' (first | (refine WO.opE (by intro; simp (disch := omega) only [go_sem, hat, hbt]; rfl) (by simp only [pt8, pt0, pt1, pt2, pt3, pt4, pt5, pt6, pt7]; rfl) ?_) | (refine WO.opE (by intro; exact ev_lenS (by simp only [go_sem]; first | rfl | assumption)) (by simp only [pt8, pt5]; rfl) ?_) | (refine WC.seq ?_) | (refine WC.region ?_) | (refine WO.nil ?_) | (simp only [fl1, fl10]) | (refine WC.calm rfl ?_) | (refine WC.no rfl ?_) | (refine WC.skip ?_) | (refine WC.block ?_) | (refine WC.em2 rfl (fun hp => ?_) (fun hp => ?_) <;> try (exfalso; first | omega | contradiction)))
        exact ⟨m - 1, by omega, _, i + 1, rfl, rfl, rfl, rfl, rfl, by omega, fun t ht => by
          by_cases e : t = i
          · subst e; exact he
          · exact hi t (by omega)⟩
      · have hd : a ≠ b := fun h => he (by rw [h])
        repeat' (first | (refine WO.opE (by intro; simp (disch := omega) only [go_sem, hat, hbt]; rfl) (by simp only [pt8, pt0, pt1, pt2, pt3, pt4, pt5, pt6, pt7]; rfl) ?_) | (refine WO.opE (by intro; exact ev_lenS (by simp only [go_sem]; first | rfl | assumption)) (by simp only [pt8, pt5]; rfl) ?_) | (refine WC.seq ?_) | (refine WC.region ?_) | (refine WO.nil ?_) | (simp only [fl1, fl2, fl5, fl8]) | (refine WC.calm rfl ?_) | (refine WC.skip ?_) | (refine WC.ret ?_) | (refine WC.block ?_) | (refine WC.em2 rfl (fun hp => ?_) (fun hp => ?_) <;> try (exfalso; first | omega | contradiction)))
        exact ⟨_, rfl, by simp only [oneRes, gt4]; rw [decide_eq_false hd]⟩
    · have hie : i = a.length := by omega
      subst hie
      repeat' (first | (refine WO.opE (by intro; simp (disch := omega) only [go_sem]; rfl) (by simp only [pt8, pt3, pt4, pt6]; rfl) ?_) | (refine WO.opE (by intro; exact ev_lenS (by simp only [go_sem]; first | rfl | assumption)) (by simp only [pt8, pt5]; rfl) ?_) | (refine WC.seq ?_) | (refine WC.region ?_) | (refine WO.nil ?_) | (simp only [fl1]) | (refine WC.exit ?_) | (refine WC.ret ?_) | (refine WC.em2 rfl (fun hp => ?_) (fun hp => ?_) <;> try (exfalso; first | omega | contradiction)))
      exact ⟨_, rfl, by simp only [oneRes, gt4]; rw [decide_eq_true (intS_ne.2 ⟨hl, hi⟩)]⟩
  · have hd : a ≠ b := fun h => hl (by rw [h])
    refine WF.fnE rfl (fn_of Tryd.func15 cir15) (by show 2 ≤ 26; decide) ?_
    unfold ir15; dsimp only [k0, kI, mV, oO, oG]
    simp only [padTo, List.replicate, List.nil_append, List.append_nil]
    repeat' (first | (refine WO.opE (by intro; simp (disch := omega) only [go_sem]; rfl) (by simp only [pt8, pt0, pt2, pt4, pt6]; rfl) ?_) | (refine WO.opE (by intro; exact ev_lenS (by simp only [go_sem]; first | rfl | assumption)) (by simp only [pt8, pt1, pt7]; rfl) ?_) | (refine WC.seq ?_) | (refine WC.region ?_) | (refine WO.nil ?_) | (simp only [fl1, fl2]) | (refine WC.ret ?_) | (refine WC.em2 rfl (fun hp => ?_) (fun hp => ?_) <;> try (exfalso; first | omega | contradiction)))
    exact ⟨_, rfl, by simp only [oneRes, gt4]; rw [decide_eq_false hd]⟩
theorem f54 {x y : AV} {a b : List (List Int)} (hx : RwL x a) (hy : RwL y b) (ha : a.length < 1000000) : WF T3 (.func 16 [] []) [x, y] ⟨[], []⟩ fun v m' => v = .bool (decide (a = b)) := by
  have hxl := hx.len
  have hyl := hy.len
  by_cases hl : a.length = b.length
  · have hl1 : (a.length : Int) = (b.length : Int) := by omega
    refine WF.fnE rfl (fn_of Tryd.func16 cir16) (by show 2 ≤ 26; decide) ?_
    unfold ir16; dsimp only [k0, kI, mV, oO, oG]
    simp only [padTo, List.replicate, List.nil_append, List.append_nil]
    repeat' (first | (refine WO.opE (by intro; simp (disch := omega) only [go_sem, hl1]; rfl) (by simp only [pt8, pt0, pt2, pt4, pt5, pt6]; rfl) ?_) | (refine WO.opE (by intro; exact ev_lenS (by simp only [go_sem]; first | rfl | assumption)) (by simp only [pt8, pt1, pt7]; rfl) ?_) | (refine WC.seq ?_) | (refine WC.region ?_) | (refine WO.nil ?_) | (simp only [fl1]) | (refine WC.no rfl ?_) | (refine WC.skip ?_) | (refine WC.block ?_))
    refine WC.loopI (fun m s => ∃ T i, s = ⟨T, [], []⟩ ∧ T.length = 26 ∧ gt T 0 = x ∧ gt T 1 = y ∧ gt T 5 = .int .i64 (i : Nat) ∧ m + i = a.length ∧ ∀ t, t < i → rw_ a t = rw_ b t) ?_ a.length _ ⟨_, 0, rfl, rfl, rfl, rfl, rfl, by omega, fun t ht => by omega⟩
    rintro m _ ⟨T, i, rfl, hT, g0, g1, g5, hm, hi⟩
    obtain ⟨f, rfl⟩ := ex26 hT
    clear hT
    replace g0 : f 0 = x := g0
    replace g1 : f 1 = y := g1
    replace g5 : f 5 = .int .i64 (i : Nat) := g5
    simp only [g0, g1, g5]
    by_cases hin : i < a.length
    · have hat := hx.at hin
      have hbt := hy.at (show i < b.length by omega)
      have h6 := hx.six hin
      have h6' := hy.six (show i < b.length by omega)
      have hc1 := cut_row (t := tailr a i) h6
      have hc2 := cut_row (t := tailr b i) h6'
      have hce := cellsEq_int (r := rw_ a i) (r' := rw_ b i) (by omega)
      rw [h6] at hce
      have hce' : cellsEq [true, true, true, true, true, true] ((rw_ a i).map (.int .i64)) ((rw_ b i).map (.int .i64)) = some (decide (rw_ a i = rw_ b i)) := hce
      by_cases he : rw_ a i = rw_ b i
      · rw [decide_eq_true he] at hce'
        repeat' (first | (refine WO.opE (by intro; simp (disch := omega) only [go_sem, hat, hbt, hc1, hc2, hce', Option.map_some, Bool.not_true]; rfl) (by simp only [pt8, pt0, pt1, pt2, pt3, pt4, pt5, pt6, pt7]; rfl) ?_) | (refine WO.opE (by intro; exact ev_lenS (by simp only [go_sem]; first | rfl | assumption)) (by simp only [pt8, pt5]; rfl) ?_) | (refine WC.seq ?_) | (refine WC.region ?_) | (refine WO.nil ?_) | (simp only [fl1, fl10]) | (refine WC.calm rfl ?_) | (refine WC.no rfl ?_) | (refine WC.skip ?_) | (refine WC.block ?_) | (refine WC.em2 rfl (fun hp => ?_) (fun hp => ?_) <;> try (exfalso; first | omega | contradiction)))
        exact ⟨m - 1, by omega, _, i + 1, rfl, rfl, rfl, rfl, rfl, by omega, fun t ht => by
          by_cases e : t = i
          · subst e; exact he
          · exact hi t (by omega)⟩
      · rw [decide_eq_false he] at hce'
        have hd : a ≠ b := fun h => he (by rw [h])
        repeat' (first | (refine WO.opE (by intro; simp (disch := omega) only [go_sem, hat, hbt, hc1, hc2, hce', Option.map_some, Bool.not_false]; rfl) (by simp only [pt8, pt0, pt1, pt2, pt3, pt4, pt5, pt6, pt7]; rfl) ?_) | (refine WO.opE (by intro; exact ev_lenS (by simp only [go_sem]; first | rfl | assumption)) (by simp only [pt8, pt5]; rfl) ?_) | (refine WC.seq ?_) | (refine WC.region ?_) | (refine WO.nil ?_) | (simp only [fl1, fl2, fl5, fl8]) | (refine WC.calm rfl ?_) | (refine WC.yes rfl ?_) | (refine WC.skip ?_) | (refine WC.ret ?_) | (refine WC.block ?_) | (refine WC.em2 rfl (fun hp => ?_) (fun hp => ?_) <;> try (exfalso; first | omega | contradiction)))
        exact ⟨_, rfl, by simp only [oneRes, gt4]; rw [decide_eq_false hd]⟩
    · have hie : i = a.length := by omega
      subst hie
      have hd : a = b := List.ext_getElem hl fun t h1 h2 => by have := hi t h1; rwa [rw_lt h1, rw_lt h2] at this
      repeat' (first | (refine WO.opE (by intro; simp (disch := omega) only [go_sem]; rfl) (by simp only [pt8, pt3, pt4, pt6]; rfl) ?_) | (refine WO.opE (by intro; exact ev_lenS (by simp only [go_sem]; first | rfl | assumption)) (by simp only [pt8, pt5]; rfl) ?_) | (refine WC.seq ?_) | (refine WC.region ?_) | (refine WO.nil ?_) | (simp only [fl1]) | (refine WC.exit ?_) | (refine WC.ret ?_) | (refine WC.em2 rfl (fun hp => ?_) (fun hp => ?_) <;> try (exfalso; first | omega | contradiction)))
      exact ⟨_, rfl, by simp only [oneRes, gt4]; rw [decide_eq_true hd]⟩
  · have hd : a ≠ b := fun h => hl (by rw [h])
    refine WF.fnE rfl (fn_of Tryd.func16 cir16) (by show 2 ≤ 26; decide) ?_
    unfold ir16; dsimp only [k0, kI, mV, oO, oG]
    simp only [padTo, List.replicate, List.nil_append, List.append_nil]
    repeat' (first | (refine WO.opE (by intro; simp (disch := omega) only [go_sem]; rfl) (by simp only [pt8, pt0, pt2, pt4, pt6]; rfl) ?_) | (refine WO.opE (by intro; exact ev_lenS (by simp only [go_sem]; first | rfl | assumption)) (by simp only [pt8, pt1, pt7]; rfl) ?_) | (refine WC.seq ?_) | (refine WC.region ?_) | (refine WO.nil ?_) | (simp only [fl1, fl2]) | (refine WC.ret ?_) | (refine WC.em2 rfl (fun hp => ?_) (fun hp => ?_) <;> try (exfalso; first | omega | contradiction)))
    exact ⟨_, rfl, by simp only [oneRes, gt4]; rw [decide_eq_false hd]⟩
theorem x49 {x y x' y' : AV} {a b : List Int} (hx : IntS x a) (hy : IntS y b) (ha : a.length < 1000000) {m : Mem} (h0 : Zz.byVal m.heap x' = some x) (h1 : Zz.byVal m.heap y' = some y) : borrowX T3 15 [x', y'] m = some (.bool (decide (a = b)), m) :=
  borrowX_of (byVals_cons h0 (byVals_cons h1 rfl)) ((f49 hx hy ha).mono fun y m' h => by rw [h]; rfl)
theorem x54 {x y x' y' : AV} {a b : List (List Int)} (hx : RwL x a) (hy : RwL y b) (ha : a.length < 1000000) {m : Mem} (h0 : Zz.byVal m.heap x' = some x) (h1 : Zz.byVal m.heap y' = some y) : borrowX T3 16 [x', y'] m = some (.bool (decide (a = b)), m) :=
  borrowX_of (byVals_cons h0 (byVals_cons h1 rfl)) ((f54 hx hy ha).mono fun y m' h => by rw [h]; rfl)
noncomputable def T9 : Env := T8.put 15 (borrowX T3 15)
theorem T9_ok : EnvOk Tryd.prog T9 := Env.put_ok T8_ok (borrowX_ok T3_ok (callable Tryd.func15 (by kernel_rfl)))
noncomputable def T10 : Env := T9.put 16 (borrowX T3 16)
theorem T10_ok : EnvOk Tryd.prog T10 := Env.put_ok T9_ok (borrowX_ok T3_ok (callable Tryd.func16 (by kernel_rfl)))
def dotN (a b : List Int) (j : Nat) : Int := psumF (fun j => a.getD j 0 * b.getD j 0) j
def dotF (a b : List Int) : Int := dotN a b 6
def imgF (rows : List (List Int)) (v : List Int) : List Int := rows.map fun r => dotF r v
theorem mul_bb {a b : Int} {A B : Int} (ha : -A ≤ a ∧ a ≤ A) (hb : -B ≤ b ∧ b ≤ B) : -(A * B) ≤ a * b ∧ a * b ≤ A * B := by
  have h1 := Int.mul_nonneg (show 0 ≤ A - a by omega) (show 0 ≤ B - b by omega)
  have h2 := Int.mul_nonneg (show 0 ≤ A + a by omega) (show 0 ≤ B + b by omega)
  have h3 := Int.mul_nonneg (show 0 ≤ A - a by omega) (show 0 ≤ B + b by omega)
  have h4 := Int.mul_nonneg (show 0 ≤ A + a by omega) (show 0 ≤ B - b by omega)
  constructor <;> grind
theorem dot_bd {a b : List Int} {A B : Int} (ha : okB A a) (hb : okB B b) : ∀ j, j ≤ 6 → -(j * (A * B)) ≤ dotN a b j ∧ dotN a b j ≤ j * (A * B)
  | 0, _ => by simp [dotN, psumF]
  | j + 1, hj => by
    have ih := dot_bd ha hb j (by omega)
    have hm := mul_bb (ha j (by omega)) (hb j (by omega))
    have e : dotN a b (j + 1) = dotN a b j + a.getD j 0 * b.getD j 0 := rfl
    have e2 : ((j + 1 : Nat) : Int) * (A * B) = j * (A * B) + A * B := by rw [Int.natCast_add, Int.add_mul]; simp
    rw [e, e2]
    omega
theorem byI (H : Hp) (r : List Int) : Zz.byVal H (.agg (icells r)) = some (.agg (icells r)) := by
  have : ∀ r : List Int, Zz.byL H (icells r) = some (icells r) := fun r => by
    induction r with
    | nil => rfl
    | cons x r ih =>
      show (match Zz.byC H (.int .i64 x), Zz.byL H (icells r) with | some a, some l => some (a :: l) | _, _ => none) = _
      rw [ih]
      rfl
  simp only [Zz.byVal, this]
theorem img_at {rows : List (List Int)} {v : List Int} {t : Nat} (ht : t < rows.length) : (imgF rows v).getD t 0 = dotF (rw_ rows t) v := by
  unfold imgF
  rw [rw_lt ht]
  simp [List.getD_eq_getElem?_getD, ht]
theorem img_len (rows : List (List Int)) (v : List Int) : (imgF rows v).length = rows.length := List.length_map _
theorem f110 {l : AV} {rows : List (List Int)} {v : List Int} (hl : RwL l rows) (h3 : rows.length ≤ 3) (hr : ∀ i, i < rows.length → okB 400 (rw_ rows i)) (hv6 : v.length = 6) (hv : okB 48 v) :
    WF T10 (.func 21 [] []) [.agg [l], .agg (icells v)] ⟨[], []⟩ fun y m' => y = .sref 2 0 0 1 rows.length (some rows.length) ∧ Zz.look m'.heap 2 0 = some (icells (imgF rows v)) := by
  have hll := hl.len
  have hlc := hl.cells
  unfold AV.cells at hlc
  have hmv : (icells v).length = 6 := by rw [icells_len, hv6]
  refine WF.fnE rfl (fn_of Tryd.func21 cir21) (by show 2 ≤ 43; decide) ?_
  unfold ir21; dsimp only [k0, kI, mV, oO, oG]
  simp only [padTo, List.replicate, List.nil_append, List.append_nil]
  repeat' (first | (refine WO.opE (by intro; simp (disch := omega) only [go_sem, Zz.look, List.cons_append, List.nil_append, Nat.reduceAdd]; rfl) (by simp only [pt8, pt0, pt1, pt2, pt3, pt4, pt5, pt7]; rfl) ?_) | (refine WO.opE (by intro; exact ev_lenS (by simp only [go_sem]; first | rfl | assumption)) (by simp only [pt8, pt2, pt5]; rfl) ?_) | (refine WO.opE (by intro; exact mk_row (by omega) rfl rfl) (by simp only [pt8, pt6]; rfl) ?_) | (refine WC.seq ?_) | (refine WC.region ?_) | (refine WO.nil ?_) | (simp only [fl1]) | (refine WC.block ?_))
  refine WC.loopI (fun m s => ∃ T G w i, s = ⟨T, G, []⟩ ∧ T.length = 43 ∧ gt T 2 = .pref 0 0 0 ∧ gt T 3 = .pref 1 0 0 ∧ gt T 5 = .sref 2 0 0 1 rows.length (some rows.length) ∧ gt T 17 = l ∧ gt T 18 = .int .i64 (rows.length : Nat) ∧ gt T 19 = .int .i64 (i : Nat) ∧ m + i = rows.length ∧ Zz.look G 0 0 = some [l] ∧ Zz.look G 1 0 = some (icells v) ∧ Zz.look G 2 0 = some (icells w) ∧ w.length = rows.length ∧ (∀ t, t < i → w.getD t 0 = dotF (rw_ rows t) v) ∧ ∀ t, i ≤ t → w.getD t 0 = 0) ?_ rows.length _ ⟨_, _, List.replicate rows.length 0, 0, rfl, rfl, rfl, rfl, rfl, rfl, rfl, rfl, by omega, rfl, rfl, rfl, by simp, fun t ht => by omega, fun t _ => by simp [List.getD_eq_getElem?_getD, List.getElem?_replicate]; split <;> rfl⟩
  rintro m _ ⟨T, G, w, i, rfl, hT, g2, g3, g5, g17, g18, g19, hm, k0, k1, k2, hwl, hw1, hw2⟩
  obtain ⟨f, rfl⟩ := ex43 hT
  clear hT
  replace g2 : f 2 = .pref 0 0 0 := g2
  replace g3 : f 3 = .pref 1 0 0 := g3
  replace g5 : f 5 = .sref 2 0 0 1 rows.length (some rows.length) := g5
  replace g17 : f 17 = l := g17
  replace g18 : f 18 = .int .i64 (rows.length : Nat) := g18
  replace g19 : f 19 = .int .i64 (i : Nat) := g19
  simp only [g2, g3, g5, g17, g18, g19]
  have l2 := look_lt k2
  by_cases hi : i < rows.length
  · have h6 := hl.six hi
    have hat := hl.at hi
    have hcut := cut_row (t := tailr rows i) h6
    have hov := fun x0 x1 x2 x3 x4 x5 => icells_over6 h6 (x0 := x0) (x1 := x1) (x2 := x2) (x3 := x3) (x4 := x4) (x5 := x5)
    have hcr : (rw_ rows i).map (AV.int .i64) = icells (rw_ rows i) := rfl
    rw [hcr] at hat hcut
    have hml : (icells (rw_ rows i)).length = 6 := by rw [icells_len, h6]
    have hcut0 := icells_cut h6
    have hri := hr i hi
    repeat' (first | (refine WO.opE (by intro; simp (disch := omega) only [go_sem, hat, hcut, hcut0, lk0]; rfl) (by simp only [pt8, pt0, pt1, pt4, pt5, pt6, pt7]; rfl) ?_) | (refine WO.opN (by intro; simp (disch := omega) only [go_sem, Option.bind_eq_bind, app_s0, hov, hml, lk0]; rfl) ?_) | (refine WC.seq ?_) | (refine WC.region ?_) | (refine WO.nil ?_) | (simp only [fl1]) | (refine WC.skip ?_) | (refine WC.block ?_) | (refine WC.em2 rfl (fun hp => ?_) (fun hp => ?_) <;> try (exfalso; first | omega | contradiction)))
    refine WC.loopI (fun m2 s => ∃ T G w j, s = ⟨T, G ++ [some ⟨0, icells (rw_ rows i)⟩], []⟩ ∧ T.length = 43 ∧ gt T 2 = .pref 0 0 0 ∧ gt T 3 = .pref 1 0 0 ∧ gt T 5 = .sref 2 0 0 1 rows.length (some rows.length) ∧ gt T 17 = l ∧ gt T 18 = .int .i64 (rows.length : Nat) ∧ gt T 19 = .int .i64 (i : Nat) ∧ gt T 6 = .int .i64 (i : Nat) ∧ gt T 24 = .agg (icells (rw_ rows i)) ∧ gt T 25 = .int .i64 (j : Nat) ∧ m2 + j = 6 ∧ Zz.look G 0 0 = some [l] ∧ Zz.look G 1 0 = some (icells v) ∧ Zz.look G 2 0 = some (icells w) ∧ w.length = rows.length ∧ (∀ t, t < i → w.getD t 0 = dotF (rw_ rows t) v) ∧ (∀ t, i < t → w.getD t 0 = 0) ∧ w.getD i 0 = dotN (rw_ rows i) v j) ?_ 6 _ ⟨_, G, w, 0, rfl, rfl, rfl, rfl, rfl, rfl, rfl, rfl, rfl, rfl, rfl, by omega, k0, k1, k2, hwl, hw1, fun t ht => hw2 t (by omega), hw2 i (Nat.le_refl _)⟩
    clear g2 g3 g5 g17 g18 g19 f k0 k1 k2 hwl hw1 hw2 l2 w G
    rintro m2 _ ⟨T, G, w, j, rfl, hT, g2, g3, g5, g17, g18, g19, g6, g24, g25, hm2, k0, k1, k2, hwl, hw1, hw2, hw3⟩
    obtain ⟨f, rfl⟩ := ex43 hT
    clear hT
    replace g2 : f 2 = .pref 0 0 0 := g2
    replace g3 : f 3 = .pref 1 0 0 := g3
    replace g5 : f 5 = .sref 2 0 0 1 rows.length (some rows.length) := g5
    replace g17 : f 17 = l := g17
    replace g18 : f 18 = .int .i64 (rows.length : Nat) := g18
    replace g19 : f 19 = .int .i64 (i : Nat) := g19
    replace g6 : f 6 = .int .i64 (i : Nat) := g6
    replace g24 : f 24 = .agg (icells (rw_ rows i)) := g24
    replace g25 : f 25 = .int .i64 (j : Nat) := g25
    simp only [g2, g3, g5, g17, g18, g19, g6, g24, g25]
    have l0 := look_lt k0
    have l1 := look_lt k1
    have l2 := look_lt k2
    have kk1 : Zz.look (G ++ [some ⟨0, icells (rw_ rows i)⟩]) 1 0 = some (icells v) := (look_left l1).trans k1
    have kk2 : Zz.look (G ++ [some ⟨0, icells (rw_ rows i)⟩]) 2 0 = some (icells w) := (look_left l2).trans k2
    by_cases hj : j < 6
    · have hia := icells_at (r := rw_ rows i) (j := j) (by omega)
      have hiv := icells_at (r := v) (j := j) (by omega)
      have hiw := icells_at (r := w) (j := i) (by omega)
      rw [hw3] at hiw
      have hov2 := icells_over (r := w) (j := i) (by omega) (dotN (rw_ rows i) v j + (rw_ rows i).getD j 0 * v.getD j 0)
      have hix : indexAddrAV 1 (.sref 2 0 0 1 rows.length (some rows.length)) (.int .i64 (i : Int)) = some (.pref 2 0 i) := by rw [ia_sref, idx_nat hi]; simp
      have b1 := dot_bd hri hv j (by omega)
      have b2 := dot_bd hri hv (j + 1) (by omega)
      have b3 := mul_bb (hri j hj) (hv j hj)
      have hd : dotN (rw_ rows i) v (j + 1) = dotN (rw_ rows i) v j + (rw_ rows i).getD j 0 * v.getD j 0 := rfl
      rw [← hd] at hov2
      have hst : (G ++ [some ⟨0, icells (rw_ rows i)⟩] : Hp).set 2 (some ⟨0, icells (w.set i (dotN (rw_ rows i) v (j + 1)))⟩) = G.set 2 (some ⟨0, icells (w.set i (dotN (rw_ rows i) v (j + 1)))⟩) ++ [some ⟨0, icells (rw_ rows i)⟩] := List.set_append_left _ _ l2
      repeat' (first | (refine WO.opE (by intro; simp (disch := omega) only [go_sem, hia, hiv, hiw, hix, kk1, kk2, ← hd, Nat.mul_one, Nat.zero_add]; rfl) (by simp only [pt8, pt0, pt1, pt2, pt3, pt4, pt5, pt6, pt7]; rfl) ?_) | (refine WO.opN (by intro; simp (disch := omega) only [go_sem, Option.bind_eq_bind, kk2, hov2, hst, setBlk, Nat.zero_add]; rfl) ?_) | (refine WC.seq ?_) | (refine WC.region ?_) | (refine WO.nil ?_) | (simp only [fl1, fl10]) | (refine WC.calm rfl ?_) | (refine WC.skip ?_) | (refine WC.block ?_) | (refine WC.em2 rfl (fun hp => ?_) (fun hp => ?_) <;> try (exfalso; first | omega | contradiction)))
      have n20 : ∀ q, q < 2 → ∀ c, Zz.look G q 0 = some c → Zz.look (G.set 2 (some ⟨0, icells (w.set i (dotN (rw_ rows i) v (j + 1)))⟩)) q 0 = some c := fun q hq c h => (look_of_get (List.getElem?_set_ne (by omega))).trans h
      exact ⟨m2 - 1, by omega, _, _, w.set i (dotN (rw_ rows i) v (j + 1)), j + 1, rfl, rfl, rfl, rfl, rfl, rfl, rfl, rfl, rfl, rfl, rfl, by omega, n20 0 (by decide) _ k0, n20 1 (by decide) _ k1, look_set l2, by simpa using hwl, fun t ht => by rw [getD_set_ne (by omega)]; exact hw1 t ht, fun t ht => by rw [getD_set_ne (by omega)]; exact hw2 t ht, getD_set_self (by omega)⟩
    · have hje : j = 6 := by omega
      subst hje
      repeat' (first | (refine WO.opE (by intro; simp (disch := omega) only [go_sem]; rfl) (by simp only [pt8, pt1, pt2, pt3]; rfl) ?_) | (refine WC.seq ?_) | (refine WC.region ?_) | (refine WO.nil ?_) | (simp only [fl10]) | (refine WC.no rfl ?_) | (refine WC.exit ?_))
      exact ⟨m - 1, by omega, _, _, w, i + 1, rfl, rfl, rfl, rfl, rfl, rfl, rfl, rfl, by omega, (look_left l0).trans k0, kk1, kk2, hwl, fun t ht => by
        by_cases e : t = i
        · subst e; exact hw3
        · exact hw1 t (by omega), fun t ht => hw2 t (by omega)⟩
  · have hie : i = rows.length := by omega
    subst hie
    have hwe : w = imgF rows v := getD_ext (by rw [hwl, img_len]) fun t ht => by rw [hw1 t (by omega), img_at (by omega)]
    subst hwe
    repeat' (first | (refine WO.opE (by intro; simp (disch := omega) only [go_sem]; rfl) (by simp only [pt8, pt2, pt4]; rfl) ?_) | (refine WC.seq ?_) | (refine WC.region ?_) | (refine WO.nil ?_) | (simp only [fl1]) | (refine WC.exit ?_) | (refine WC.ret ?_) | (refine WC.em2 rfl (fun hp => ?_) (fun hp => ?_) <;> try (exfalso; first | omega | contradiction)))
    exact ⟨_, rfl, rfl, k2⟩
theorem r110 {l l' : AV} {rows : List (List Int)} {v : List Int} (hl : RwL l rows) (h3 : rows.length ≤ 3) (hr : ∀ i, i < rows.length → okB 400 (rw_ rows i)) (hv6 : v.length = 6) (hv : okB 48 v) {m : Mem} (h0 : Zz.byC m.heap l' = some l) :
    borrowR T10 21 [.agg [l'], .agg (icells v)] m = some (.sref m.heap.length 0 0 1 rows.length (some rows.length), ⟨m.heap ++ [some ⟨0, icells (imgF rows v)⟩], m.loops⟩) := by
  refine borrowR_of (byVals_cons (byMap h0) (byVals_cons (byI _ _) rfl)) ((f110 hl h3 hr hv6 hv).mono ?_)
  rintro y m' ⟨rfl, h⟩
  exact ⟨_, _, one_take h (flat_ints _), one_ren h, rfl⟩
noncomputable def T11 : Env := T10.put 21 (borrowR T10 21)
theorem T11_ok : EnvOk Tryd.prog T11 := Env.put_ok T10_ok (borrowR_ok T10_ok (callable Tryd.func21 (by kernel_rfl)))
def imgR (rows : List (List Int)) (v : List Int) : List Int := if VT rows ∧ okB 48 v then imgF rows v else []
def errI (rows : List (List Int)) (v : List Int) : Int := if VT rows ∧ okB 48 v then 0 else 1
theorem new_row {H : Hp} {r : List Int} {n q : Nat} (hn : r.length = n) (h : Zz.look H q 0 = some (icells r)) : Zz.newA H (.sref q 0 0 1 n (some n)) = some (.sval true r.length (icells r)) := by
  subst hn
  have e1 : Zz.cut (icells r) 0 (r.length * 1) = some (icells r) := by
    unfold Zz.cut
    rw [if_pos (by rw [icells_len]; omega), List.drop_zero, List.take_of_length_le (by rw [icells_len]; omega)]
  have e2 : (icells r).all flatAV = true := flat_ints _
  simp only [Zz.newA, Zz.newC, h, e1, e2, if_true, beq_self_eq_true]
theorem x47 {l : AV} {rows : List (List Int)} {v : List Int} (hl : RwL l rows) (hmax : rows.length < 9223372036854775807) (hv6 : v.length = 6) : ∃ x, IntS x (imgR rows v) ∧ ∀ m l', Zz.byC m.heap l' = some l → borrowX T11 10 [.agg [l'], .agg (icells v)] m = some (.tuple [x, .int .i64 (errI rows v)], m) := by
  have hlc := hl.cells
  unfold AV.cells at hlc
  have hmv : (icells v).length = 6 := by rw [icells_len, hv6]
  have hcv := icells_cut hv6
  have c45 := fun m => x45 (m := m) hl hmax (hl.byC _)
  have c61 := fun m => s61 (m := m) hv6
  unfold imgR errI
  by_cases ht : VT rows
  · rw [decide_eq_true ht] at c45
    by_cases hv : okB 48 v
    · rw [decide_eq_true hv] at c61
      have c110 := fun m => r110 (m := m) hl ht.1.2 ht.2.1 hv6 hv (hl.byC _)
      rw [if_pos ⟨ht, hv⟩, if_pos ⟨ht, hv⟩]
      refine ⟨.sval true (imgF rows v).length (icells (imgF rows v)), IntS.mk _ true, fun m l' h0 => borrowX_of (byVals_cons (byMap h0) (byVals_cons (byI _ _) rfl)) ?_⟩
      refine WF.fnE rfl (fn_of Tryd.func10 cir10) (by show 2 ≤ 18; decide) ?_
      unfold ir10; dsimp only [k0, kI, mV, oO, oG]
      simp only [padTo, List.replicate, List.nil_append, List.append_nil]
      repeat' (first | (refine WO.yes rfl ?_) | (refine WO.opE (by intro; simp (disch := omega) only [go_sem, Zz.look, fillP, Option.bind_eq_bind, ov_one0, Nat.reduceAdd, hcv]; rfl) (by simp only [pt8, pt0, pt1, pt2, pt3, pt4, pt5, pt6, pt7]; rfl) ?_) | (refine WO.specE rfl rfl (c45 _) (by simp only [pt7]; rfl) ?_) | (refine WO.specE rfl rfl (c61 _) (by simp only [pt8, pt3]; rfl) ?_) | (refine WO.specE rfl rfl (c110 _) (by simp only [pt8, pt1]; rfl) ?_) | (refine WC.seq ?_) | (refine WC.region ?_) | (refine WO.nil ?_) | (simp only [fl1]) | (refine WC.no rfl ?_) | (refine WC.skip ?_) | (refine WC.ret ?_))
      exact ⟨_, rfl, newV_two (new_row (img_len _ _) rfl)⟩
    · rw [decide_eq_false hv] at c61
      rw [if_neg (fun h => hv h.2), if_neg (fun h => hv h.2)]
      refine ⟨.snil, IntS.nil, fun m l' h0 => borrowX_of (byVals_cons (byMap h0) (byVals_cons (byI _ _) rfl)) ?_⟩
      refine WF.fnE rfl (fn_of Tryd.func10 cir10) (by show 2 ≤ 18; decide) ?_
      unfold ir10; dsimp only [k0, kI, mV, oO, oG]
      simp only [padTo, List.replicate, List.nil_append, List.append_nil]
      repeat' (first | (refine WO.yes rfl ?_) | (refine WO.opE (by intro; simp (disch := omega) only [go_sem, Zz.look, hcv]; rfl) (by simp only [pt8, pt0, pt1, pt2, pt3, pt4, pt5, pt6]; rfl) ?_) | (refine WO.specE rfl rfl (c45 _) (by simp only [pt7]; rfl) ?_) | (refine WO.specE rfl rfl (c61 _) (by simp only [pt8, pt3]; rfl) ?_) | (refine WC.seq ?_) | (refine WC.region ?_) | (refine WO.nil ?_) | (simp only [fl1, fl2]) | (refine WC.yes rfl ?_) | (refine WC.ret ?_))
      exact ⟨_, rfl, rfl⟩
  · rw [decide_eq_false ht] at c45
    rw [if_neg (fun h => ht h.1), if_neg (fun h => ht h.1)]
    refine ⟨.snil, IntS.nil, fun m l' h0 => borrowX_of (byVals_cons (byMap h0) (byVals_cons (byI _ _) rfl)) ?_⟩
    refine WF.fnE rfl (fn_of Tryd.func10 cir10) (by show 2 ≤ 18; decide) ?_
    unfold ir10; dsimp only [k0, kI, mV, oO, oG]
    simp only [padTo, List.replicate, List.nil_append, List.append_nil]
    repeat' (first | (refine WO.noE rfl (by simp only [pt8, pt2, pt3, pt4]; rfl) ?_) | (refine WO.opE (by intro; simp (disch := omega) only [go_sem, Zz.look]; rfl) (by simp only [pt8, pt0, pt1, pt2, pt3, pt4, pt5, pt6]; rfl) ?_) | (refine WO.specE rfl rfl (c45 _) (by simp only [pt7]; rfl) ?_) | (refine WC.seq ?_) | (refine WC.region ?_) | (refine WO.nil ?_) | (simp only [fl1, fl2]) | (refine WC.yes rfl ?_) | (refine WC.ret ?_))
    exact ⟨_, rfl, rfl⟩
noncomputable def T12 : Env := T11.put 10 (borrowX T11 10)
theorem T12_ok : EnvOk Tryd.prog T12 := Env.put_ok T11_ok (borrowX_ok T11_ok (callable Tryd.func10 (by kernel_rfl)))
def tempR (rows : List (List Int)) (v : List Int) : Bool := decide ((VT rows ∧ okB 48 v) ∧ ∀ t, t < rows.length → (imgF rows v).getD t 0 = 0)
theorem f50 {l : AV} {rows : List (List Int)} {v : List Int} (hl : RwL l rows) (hmax : rows.length < 9223372036854775807) (hv6 : v.length = 6) : WF T12 (.func 11 [] []) [.agg [l], .agg (icells v)] ⟨[], []⟩ fun y m' => y = .tuple [.bool (tempR rows v), .int .i64 (errI rows v)] := by
  have hlc := hl.cells
  unfold AV.cells at hlc
  have hmv : (icells v).length = 6 := by rw [icells_len, hv6]
  have hcv := icells_cut hv6
  obtain ⟨x, hx, c47⟩ := x47 hl hmax hv6
  have c47 := fun m => c47 m l (hl.byC _)
  by_cases ht : VT rows ∧ okB 48 v
  · have e1 : imgR rows v = imgF rows v := if_pos ht
    have e2 : errI rows v = 0 := if_pos ht
    rw [e1] at hx
    rw [e2] at c47 ⊢
    have hxl := IntS.len hx
    rw [img_len] at hxl
    refine WF.fnE rfl (fn_of Tryd.func11 cir11) (by show 2 ≤ 28; decide) ?_
    unfold ir11; dsimp only [k0, kI, mV, oO, oG]
    simp only [padTo, List.replicate, List.nil_append, List.append_nil]
    repeat' (first | (refine WO.opE (by intro; simp (disch := omega) only [go_sem, Zz.look, hcv]; rfl) (by simp only [pt8, pt0, pt1, pt2, pt3, pt4, pt5, pt6, pt7]; rfl) ?_) | (refine WO.opE (by intro; exact ev_lenS (by simp only [go_sem]; first | rfl | assumption)) (by simp only [pt8, pt4]; rfl) ?_) | (refine WO.specE rfl rfl (c47 _) (by simp only [pt8, pt5]; rfl) ?_) | (refine WC.seq ?_) | (refine WC.region ?_) | (refine WO.nil ?_) | (simp only [fl1]) | (refine WC.no rfl ?_) | (refine WC.skip ?_) | (refine WC.block ?_))
    refine WC.loopI (fun m s => ∃ T i, s = ⟨T, [some ⟨0, [l]⟩, some ⟨0, icells v⟩], []⟩ ∧ T.length = 28 ∧ gt T 19 = x ∧ gt T 20 = .int .i64 (rows.length : Nat) ∧ gt T 21 = .int .i64 (i : Nat) ∧ m + i = rows.length ∧ ∀ t, t < i → (imgF rows v).getD t 0 = 0) ?_ rows.length _ ⟨_, 0, rfl, rfl, rfl, rfl, rfl, by omega, fun t ht => by omega⟩
    rintro m _ ⟨T, i, rfl, hT, g19, g20, g21, hm, hz⟩
    obtain ⟨f, rfl⟩ := ex28 hT
    clear hT
    replace g19 : f 19 = x := g19
    replace g20 : f 20 = .int .i64 (rows.length : Nat) := g20
    replace g21 : f 21 = .int .i64 (i : Nat) := g21
    simp only [g19, g20, g21]
    by_cases hi : i < rows.length
    · have hat := hx.atI (i := (i : Int)) (by omega) (by rw [img_len]; omega)
      rw [toNat_cast] at hat
      by_cases h0 : (imgF rows v).getD i 0 = 0
      · rw [h0] at hat
        repeat' (first | (refine WO.opE (by intro; simp (disch := omega) only [go_sem, hat]; rfl) (by simp only [pt8, pt0, pt1, pt2, pt3, pt5, pt6, pt7]; rfl) ?_) | (refine WC.seq ?_) | (refine WC.region ?_) | (refine WO.nil ?_) | (simp only [fl1, fl10]) | (refine WC.no rfl ?_) | (refine WC.skip ?_) | (refine WC.block ?_) | (refine WC.em2 rfl (fun hp => ?_) (fun hp => ?_) <;> try (exfalso; first | omega | contradiction)))
        exact ⟨m - 1, by omega, _, i + 1, rfl, rfl, rfl, rfl, rfl, by omega, fun t ht => by
          by_cases e : t = i
          · subst e; exact h0
          · exact hz t (by omega)⟩
      · have hd : tempR rows v = false := decide_eq_false fun h => h0 (h.2 i hi)
        generalize (imgF rows v).getD i 0 = y at *
        repeat' (first | (refine WO.opE (by intro; simp (disch := omega) only [go_sem, hat]; rfl) (by simp only [pt8, pt0, pt1, pt2, pt4, pt5, pt6, pt7]; rfl) ?_) | (refine WC.seq ?_) | (refine WC.region ?_) | (refine WO.nil ?_) | (simp only [fl1, fl2, fl5, fl8]) | (refine WC.skip ?_) | (refine WC.ret ?_) | (refine WC.block ?_) | (refine WC.em2 rfl (fun hp => ?_) (fun hp => ?_) <;> try (exfalso; first | omega | contradiction)))
        exact ⟨_, rfl, by rw [hd]; rfl⟩
    · have hie : i = rows.length := by omega
      subst hie
      have hd : tempR rows v = true := decide_eq_true ⟨ht, hz⟩
      repeat' (first | (refine WO.opE (by intro; simp (disch := omega) only [go_sem]; rfl) (by simp only [pt8, pt4, pt5, pt6]; rfl) ?_) | (refine WC.seq ?_) | (refine WC.region ?_) | (refine WO.nil ?_) | (simp only [fl1]) | (refine WC.exit ?_) | (refine WC.ret ?_) | (refine WC.em2 rfl (fun hp => ?_) (fun hp => ?_) <;> try (exfalso; first | omega | contradiction)))
      exact ⟨_, rfl, by rw [hd]; rfl⟩
  · have e2 : errI rows v = 1 := if_neg ht
    rw [e2] at c47 ⊢
    have hd : tempR rows v = false := decide_eq_false fun h => ht h.1
    refine WF.fnE rfl (fn_of Tryd.func11 cir11) (by show 2 ≤ 28; decide) ?_
    unfold ir11; dsimp only [k0, kI, mV, oO, oG]
    simp only [padTo, List.replicate, List.nil_append, List.append_nil]
    repeat' (first | (refine WO.opE (by intro; simp (disch := omega) only [go_sem, Zz.look, hcv]; rfl) (by simp only [pt8, pt0, pt1, pt2, pt3, pt4, pt5, pt6, pt7]; rfl) ?_) | (refine WO.specE rfl rfl (c47 _) (by simp only [pt8, pt5]; rfl) ?_) | (refine WC.seq ?_) | (refine WC.region ?_) | (refine WO.nil ?_) | (simp only [fl1, fl2]) | (refine WC.yes rfl ?_) | (refine WC.ret ?_))
    exact ⟨_, rfl, by rw [hd]; rfl⟩
theorem x50 {l l' : AV} {rows : List (List Int)} {v : List Int} (hl : RwL l rows) (hmax : rows.length < 9223372036854775807) (hv6 : v.length = 6) {m : Mem} (h0 : Zz.byC m.heap l' = some l) : borrowX T12 11 [.agg [l'], .agg (icells v)] m = some (.tuple [.bool (tempR rows v), .int .i64 (errI rows v)], m) :=
  borrowX_of (byVals_cons (byMap h0) (byVals_cons (byI _ _) rfl)) ((f50 hl hmax hv6).mono fun y m' h => by rw [h]; rfl)
noncomputable def T13 : Env := T12.put 11 (borrowX T12 11)
theorem T13_ok : EnvOk Tryd.prog T13 := Env.put_ok T12_ok (borrowX_ok T12_ok (callable Tryd.func11 (by kernel_rfl)))
set_option maxRecDepth 100000
set_option maxHeartbeats 8000000
def kerT (rows : List (List Int)) : List (List Int) := if VT rows then kerF rows else []
def errT (rows : List (List Int)) : Int := if VT rows then 0 else 1
theorem x52 {l : AV} {rows : List (List Int)} (hl : RwL l rows) (hmax : rows.length < 9223372036854775807) : ∃ x, RwL x (kerT rows) ∧ ∀ m l', Zz.byC m.heap l' = some l → borrowX T13 13 [.agg [l']] m = some (.tuple [x, .int .i64 (errT rows)], m) := by
  have hlc := hl.cells
  unfold AV.cells at hlc
  have h6 : Six rows := fun i hi => hl.six hi
  have c45 := fun m => x45 (m := m) hl hmax (hl.byC _)
  by_cases ht : VT rows
  · rw [decide_eq_true ht] at c45
    have e1 : kerT rows = kerF rows := if_pos ht
    have e2 : errT rows = 0 := if_pos ht
    have e3 : kernR rows = kerF rows := if_pos ht.2.2.1
    have e4 : errC rows = 0 := if_pos ht.2.2.1
    rw [e1, e2]
    obtain ⟨x, hx, hB⟩ := r30 hl hmax
    obtain ⟨new, v', c30, g30, hrx⟩ := hB [some ⟨0, [l]⟩] []
    have c30 := c30 l (hl.byVal _)
    rw [e3] at hx
    rw [e4] at c30
    have hn : Zz.newA ([some ⟨0, [l]⟩] ++ new) v' = some x := (GS.newA g30).trans hrx
    refine ⟨x, hx, fun m l' h0 => borrowX_of (byVals_cons (byMap h0) rfl) ?_⟩
    refine WF.fnE rfl (fn_of Tryd.func13 cir13) (by show 1 ≤ 12; decide) ?_
    unfold ir13; dsimp only [k0, kI, mV, oO, oG]
    simp only [padTo, List.replicate, List.nil_append, List.append_nil]
    repeat' (first | (refine WO.opE (by intro; simp (disch := omega) only [go_sem, Zz.look]; rfl) (by simp only [pt8, pt0, pt1, pt2, pt3, pt4, pt6, pt7]; rfl) ?_) | (refine WO.specE rfl rfl (c45 _) (by simp only [pt5]; rfl) ?_) | (refine WO.specE rfl rfl (c30) (by simp only [pt8, pt1]; rfl) ?_) | (refine WC.seq ?_) | (refine WC.region ?_) | (refine WO.nil ?_) | (simp only [fl1]) | (refine WC.no rfl ?_) | (refine WC.skip ?_) | (refine WC.ret ?_))
    exact ⟨_, rfl, newV_two hn⟩
  · rw [decide_eq_false ht] at c45
    have e1 : kerT rows = [] := if_neg ht
    have e2 : errT rows = 1 := if_neg ht
    rw [e1, e2]
    refine ⟨.snil, rwl_nil, fun m l' h0 => borrowX_of (byVals_cons (byMap h0) rfl) ?_⟩
    refine WF.fnE rfl (fn_of Tryd.func13 cir13) (by show 1 ≤ 12; decide) ?_
    unfold ir13; dsimp only [k0, kI, mV, oO, oG]
    simp only [padTo, List.replicate, List.nil_append, List.append_nil]
    repeat' (first | (refine WO.opE (by intro; simp (disch := omega) only [go_sem, Zz.look]; rfl) (by simp only [pt1, pt2, pt3, pt4, pt6]; rfl) ?_) | (refine WO.specE rfl rfl (c45 _) (by simp only [pt5]; rfl) ?_) | (refine WC.seq ?_) | (refine WC.region ?_) | (refine WO.nil ?_) | (simp only [fl1, fl2]) | (refine WC.yes rfl ?_) | (refine WC.ret ?_))
    exact ⟨_, rfl, rfl⟩
noncomputable def T14 : Env := T13.put 13 (borrowX T13 13)
theorem T14_ok : EnvOk Tryd.prog T14 := Env.put_ok T13_ok (borrowX_ok T13_ok (callable Tryd.func13 (by kernel_rfl)))
def tuneN (rows gens : List (List Int)) (v : List Int) (i k : Nat) : Int := psumF (fun t => (imgF rows v).getD t 0 * ent gens t k) i
def tuneF (rows gens : List (List Int)) (v : List Int) : List Int := (List.range 6).map fun k => tuneN rows gens v rows.length k
theorem tune_at {rows gens : List (List Int)} {v : List Int} {k : Nat} (hk : k < 6) : (tuneF rows gens v).getD k 0 = tuneN rows gens v rows.length k := by
  unfold tuneF
  simp [List.getD_eq_getElem?_getD, hk]
theorem img_bd {rows : List (List Int)} {v : List Int} (hr : ∀ i, i < rows.length → okB 400 (rw_ rows i)) (hv : okB 48 v) {t : Nat} (ht : t < rows.length) : -115200 ≤ (imgF rows v).getD t 0 ∧ (imgF rows v).getD t 0 ≤ 115200 := by
  rw [img_at ht]
  have := dot_bd (hr t ht) hv 6 (Nat.le_refl _)
  unfold dotF
  omega
theorem tune_bd {rows gens : List (List Int)} {v : List Int} (hr : ∀ i, i < rows.length → okB 400 (rw_ rows i)) (hv : okB 48 v) (hg : ∀ i, i < gens.length → okB 576 (rw_ gens i)) (hl : gens.length = rows.length) {k : Nat} (hk : k < 6) : ∀ i, i ≤ rows.length → -(i * 66355200) ≤ tuneN rows gens v i k ∧ tuneN rows gens v i k ≤ i * 66355200
  | 0, _ => by simp [tuneN, psumF]
  | i + 1, hi => by
    have ih := tune_bd hr hv hg hl hk i (by omega)
    have hm := mul_bb (img_bd hr hv (show i < rows.length by omega)) (hg i (by omega) k hk)
    have e : tuneN rows gens v (i + 1) k = tuneN rows gens v i k + (imgF rows v).getD i 0 * (rw_ gens i).getD k 0 := rfl
    rw [e]
    omega
theorem f114 {E : Env} (hE : E.spec 20 = none) (hF : E.fn 20 = some ir20) (h110 : E.spec 21 = some (borrowR T10 21)) {l gx : AV} {rows gens : List (List Int)} {v : List Int} (hl : RwL l rows) (h3 : rows.length ≤ 3) (hr : ∀ i, i < rows.length → okB 400 (rw_ rows i)) (hv6 : v.length = 6) (hv : okB 48 v)
    (hgx : RwL gx gens) (hgl : gens.length = rows.length) (hg : ∀ i, i < gens.length → okB 576 (rw_ gens i)) {H : Hp} {L : List (Option ALoop)} :
    WF E (.func 20 [] []) [.func 21 [.agg [l]] [], gx, .agg (icells v)] ⟨H, L⟩ fun y m' => y = .agg (icells (tuneF rows gens v)) ∧ ∃ R, m' = ⟨H ++ R, L⟩ := by
  have hmv : (icells v).length = 6 := by rw [icells_len, hv6]
  have hcv := icells_cut hv6
  have hil : (icells (imgF rows v)).length = rows.length := by rw [icells_len, img_len]
  refine WF.fnE hE hF (by show 3 ≤ 40; decide) ?_
  unfold ir20; dsimp only [k0, kI, mV, oO, oG]
  simp only [padTo, List.replicate, List.nil_append, List.append_nil]
  repeat' (first | (refine WO.opE (by intro; simp (disch := omega) only [go_sem, List.append_assoc, List.length_append, Nat.reduceAdd, hcv, lk0, List.cons_append, List.nil_append]; rfl) (by simp only [pt8, pt4, pt5, pt6, pt7]; rfl) ?_) | (refine WC.seq ?_) | (refine WC.region ?_) | (refine WO.nil ?_) | (simp only [fl1]))
  have c110 : borrowR T10 21 [.agg [l], .agg (icells v)] ⟨H ++ [some ⟨0, icells v⟩, some ⟨0, icells zer6⟩, some ⟨0, icells zer6⟩], L⟩ = some (.sref (H.length + 3) 0 0 1 rows.length (some rows.length), ⟨H ++ [some ⟨0, icells v⟩, some ⟨0, icells zer6⟩, some ⟨0, icells zer6⟩, some ⟨0, icells (imgF rows v)⟩], L⟩) := by
    have := r110 (m := ⟨H ++ [some ⟨0, icells v⟩, some ⟨0, icells zer6⟩, some ⟨0, icells zer6⟩], L⟩) hl h3 hr hv6 hv (hl.byC _)
    simpa using this
  refine WO.callE rfl rfl (WF.spec h110 c110 ⟨rfl, rfl⟩) (by simp only [pt8, pt6]; rfl) ?_
  repeat' (first | (refine WO.opE (by intro; simp (disch := omega) only [go_sem]; rfl) (by simp only [pt8, pt0, pt7]; rfl) ?_) | (refine WO.nil ?_) | (refine WC.block ?_))
  refine WC.loopI (fun m s => ∃ T w i, s = ⟨T, H ++ [some ⟨0, icells v⟩, some ⟨0, icells zer6⟩, some ⟨0, icells w⟩, some ⟨0, icells (imgF rows v)⟩], L⟩ ∧ T.length = 40 ∧ gt T 1 = gx ∧ gt T 6 = .pref (H.length + 1) 0 0 ∧ gt T 7 = .pref (H.length + 2) 0 0 ∧ gt T 14 = .sref (H.length + 3) 0 0 1 rows.length (some rows.length) ∧ gt T 15 = .int .i64 (rows.length : Nat) ∧ gt T 16 = .int .i64 (i : Nat) ∧ m + i = rows.length ∧ w.length = 6 ∧ ∀ k, k < 6 → w.getD k 0 = tuneN rows gens v i k) ?_ rows.length _ ⟨_, zer6, 0, rfl, rfl, rfl, rfl, rfl, rfl, rfl, rfl, by omega, rfl, fun k hk => by
    show _ = 0
    have : k = 0 ∨ k = 1 ∨ k = 2 ∨ k = 3 ∨ k = 4 ∨ k = 5 := by omega
    rcases this with rfl | rfl | rfl | rfl | rfl | rfl <;> rfl⟩
  rintro m _ ⟨T, w, i, rfl, hT, g1, g6, g7, g14, g15, g16, hm, hwl, hw⟩
  obtain ⟨f, rfl⟩ := ex40 hT
  clear hT
  replace g1 : f 1 = gx := g1
  replace g6 : f 6 = .pref (H.length + 1) 0 0 := g6
  replace g7 : f 7 = .pref (H.length + 2) 0 0 := g7
  replace g14 : f 14 = .sref (H.length + 3) 0 0 1 rows.length (some rows.length) := g14
  replace g15 : f 15 = .int .i64 (rows.length : Nat) := g15
  replace g16 : f 16 = .int .i64 (i : Nat) := g16
  simp only [g1, g6, g7, g14, g15, g16]
  by_cases hi : i < rows.length
  · have h6 := hgx.six (i := i) (by omega)
    have hat := hgx.at (i := i) (by omega)
    have hcut := cut_row (t := tailr gens i) h6
    have hcr : (rw_ gens i).map (AV.int .i64) = icells (rw_ gens i) := rfl
    rw [hcr] at hat hcut
    have hml : (icells (rw_ gens i)).length = 6 := by rw [icells_len, h6]
    have hix : indexAddrAV 1 (.sref (H.length + 3) 0 0 1 rows.length (some rows.length)) (.int .i64 (i : Int)) = some (.pref (H.length + 3) 0 i) := by rw [ia_sref, idx_nat hi]; simp
    have hia := icells_at (r := imgF rows v) (j := i) (by rw [img_len]; exact hi)
    have hib := img_bd hr hv hi
    have hgi := hg i (by omega)
    repeat' (first | (refine WO.opE (by intro; simp (disch := omega) only [go_sem, hat, hcut, hix, hia, lk3]; rfl) (by simp only [pt8, pt0, pt1, pt2, pt3, pt4, pt5, pt6, pt7]; rfl) ?_) | (refine WC.seq ?_) | (refine WC.region ?_) | (refine WO.nil ?_) | (simp only [fl1]) | (refine WC.skip ?_) | (refine WC.block ?_) | (refine WC.em2 rfl (fun hp => ?_) (fun hp => ?_) <;> try (exfalso; first | omega | contradiction)))
    refine WC.loopI (fun m2 s => ∃ T w j, s = ⟨T, H ++ [some ⟨0, icells v⟩, some ⟨0, icells zer6⟩, some ⟨0, icells w⟩, some ⟨0, icells (imgF rows v)⟩], L⟩ ∧ T.length = 40 ∧ gt T 1 = gx ∧ gt T 6 = .pref (H.length + 1) 0 0 ∧ gt T 7 = .pref (H.length + 2) 0 0 ∧ gt T 14 = .sref (H.length + 3) 0 0 1 rows.length (some rows.length) ∧ gt T 15 = .int .i64 (rows.length : Nat) ∧ gt T 16 = .int .i64 (i : Nat) ∧ gt T 9 = .int .i64 ((imgF rows v).getD i 0) ∧ gt T 24 = .agg (icells (rw_ gens i)) ∧ gt T 25 = .int .i64 (j : Nat) ∧ m2 + j = 6 ∧ w.length = 6 ∧ (∀ k, k < j → w.getD k 0 = tuneN rows gens v (i + 1) k) ∧ ∀ k, j ≤ k → k < 6 → w.getD k 0 = tuneN rows gens v i k) ?_ 6 _ ⟨_, w, 0, rfl, rfl, rfl, rfl, rfl, rfl, rfl, rfl, rfl, rfl, rfl, by omega, hwl, fun k hk => by omega, fun k _ hk => hw k hk⟩
    clear g1 g6 g7 g14 g15 g16 f hwl hw w
    rintro m2 _ ⟨T, w, j, rfl, hT, g1, g6, g7, g14, g15, g16, g9, g24, g25, hm2, hwl, hw1, hw2⟩
    obtain ⟨f, rfl⟩ := ex40 hT
    clear hT
    replace g1 : f 1 = gx := g1
    replace g6 : f 6 = .pref (H.length + 1) 0 0 := g6
    replace g7 : f 7 = .pref (H.length + 2) 0 0 := g7
    replace g14 : f 14 = .sref (H.length + 3) 0 0 1 rows.length (some rows.length) := g14
    replace g15 : f 15 = .int .i64 (rows.length : Nat) := g15
    replace g16 : f 16 = .int .i64 (i : Nat) := g16
    replace g9 : f 9 = .int .i64 ((imgF rows v).getD i 0) := g9
    replace g24 : f 24 = .agg (icells (rw_ gens i)) := g24
    replace g25 : f 25 = .int .i64 (j : Nat) := g25
    simp only [g1, g6, g7, g14, g15, g16, g9, g24, g25]
    by_cases hj : j < 6
    · have hja := icells_at (r := rw_ gens i) (j := j) (by omega)
      have hwa := icells_at (r := w) (j := j) (by omega)
      rw [hw2 j (Nat.le_refl _) hj] at hwa
      have hd : tuneN rows gens v (i + 1) j = tuneN rows gens v i j + (imgF rows v).getD i 0 * (rw_ gens i).getD j 0 := rfl
      have hov2 := icells_over (r := w) (j := j) (by omega) (tuneN rows gens v (i + 1) j)
      have b1 := tune_bd hr hv hg hgl hj i (by omega)
      have b2 := tune_bd hr hv hg hgl hj (i + 1) (by omega)
      have b3 := mul_bb hib (hgi j hj)
      repeat' (first | (refine WO.opE (by intro; simp (disch := omega) only [go_sem, hja, hwa, ← hd, lk2, Nat.mul_one, Nat.zero_add]; rfl) (by simp only [pt8, pt0, pt1, pt2, pt3, pt4, pt5, pt6, pt7]; rfl) ?_) | (refine WO.opN (by intro; simp (disch := omega) only [go_sem, Option.bind_eq_bind, app_s2, hov2, lk2, setBlk, Nat.zero_add]; rfl) ?_) | (refine WC.seq ?_) | (refine WC.region ?_) | (refine WO.nil ?_) | (simp only [fl10]) | (refine WC.skip ?_) | (refine WC.block ?_) | (refine WC.em2 rfl (fun hp => ?_) (fun hp => ?_) <;> try (exfalso; first | omega | contradiction)))
      exact ⟨m2 - 1, by omega, _, w.set j (tuneN rows gens v (i + 1) j), j + 1, rfl, rfl, rfl, rfl, rfl, rfl, rfl, rfl, rfl, rfl, rfl, by omega, by simpa using hwl, fun k hk => by
        by_cases e : k = j
        · subst e; rw [getD_set_self (by omega)]
        · rw [getD_set_ne (by omega)]; exact hw1 k (by omega), fun k h1 h2 => by rw [getD_set_ne (by omega)]; exact hw2 k (by omega) h2⟩
    · have hje : j = 6 := by omega
      subst hje
      repeat' (first | (refine WO.opE (by intro; simp (disch := omega) only [go_sem]; rfl) (by simp only [pt8, pt0, pt2, pt6]; rfl) ?_) | (refine WC.seq ?_) | (refine WC.region ?_) | (refine WO.nil ?_) | (simp only [fl10]) | (refine WC.no rfl ?_) | (refine WC.exit ?_))
      exact ⟨m - 1, by omega, _, w, i + 1, rfl, rfl, rfl, rfl, rfl, rfl, rfl, rfl, by omega, hwl, fun k hk => hw1 k hk⟩
  · have hie : i = rows.length := by omega
    subst hie
    have hwe : w = tuneF rows gens v := getD_ext (by rw [hwl]; simp [tuneF]) fun k hk => by rw [hw k (by omega), tune_at (by omega)]
    subst hwe
    have hcw := icells_cut hwl
    have hml : (icells (tuneF rows gens v)).length = 6 := by rw [icells_len, hwl]
    have hov := fun x0 x1 x2 x3 x4 x5 => icells_over6 hwl (x0 := x0) (x1 := x1) (x2 := x2) (x3 := x3) (x4 := x4) (x5 := x5)
    have hze : icells zer6 = [.int .i64 0, .int .i64 0, .int .i64 0, .int .i64 0, .int .i64 0, .int .i64 0] := rfl
    rw [hze]
    repeat' (first | (refine WO.opE (by intro; simp (disch := omega) only [go_sem, hcw, lk2]; rfl) (by simp only [pt8, pt1, pt7]; rfl) ?_) | (refine WO.opN (by intro; simp (disch := omega) only [go_sem, Option.bind_eq_bind, app_s1, hml, hov, lk1, setBlk]; rfl) ?_) | (refine WC.seq ?_) | (refine WC.region ?_) | (refine WO.nil ?_) | (simp only [fl1]) | (refine WC.exit ?_) | (refine WC.ret ?_) | (refine WC.em2 rfl (fun hp => ?_) (fun hp => ?_) <;> try (exfalso; first | omega | contradiction)))
    exact ⟨_, by simp only [evRes, gt6, lk1 rfl, loadCs, hcw, if_true, Option.bind_some, Option.map_some]; rfl, rfl, _, rfl⟩
set_option maxRecDepth 100000
set_option maxHeartbeats 8000000
def tunOK (rows gens : List (List Int)) (v : List Int) : Prop := VT rows ∧ gens.length = rows.length ∧ okB 48 v ∧ ∀ i, i < gens.length → okB 576 (rw_ gens i)
instance (rows gens : List (List Int)) (v : List Int) : Decidable (tunOK rows gens v) := by unfold tunOK; infer_instance
def tunP (rows gens : List (List Int)) (v : List Int) : List Int := if tunOK rows gens v ∧ okB 576 (tuneF rows gens v) then tuneF rows gens v else zer6
def errTu (rows gens : List (List Int)) (v : List Int) : Int := if tunOK rows gens v then (if okB 576 (tuneF rows gens v) then 0 else 3) else 1
theorem newI6 (H : Hp) (r : List Int) : Zz.newA H (.agg (icells r)) = some (.agg (icells r)) := by
  have : ∀ r : List Int, Zz.newL H (icells r) = some (icells r) := fun r => by
    induction r with
    | nil => rfl
    | cons x r ih =>
      show (match Zz.newC H (.int .i64 x), Zz.newL H (icells r) with | some a, some l => some (a :: l) | _, _ => none) = _
      rw [ih]
      rfl
  simp only [Zz.newA, this]
theorem f57 {l gx : AV} {rows gens : List (List Int)} {v : List Int} (hl : RwL l rows) (hmax : rows.length < 9223372036854775807) (hgx : RwL gx gens) (hgm : gens.length < 9223372036854775807) (hv6 : v.length = 6) : WF T14 (.func 5 [] []) [.agg [l], gx, .agg (icells v)] ⟨[], []⟩ fun y m' => y = .tuple [.agg (icells (tunP rows gens v)), .int .i64 (errTu rows gens v)] := by
  have hll := hl.len
  have hgl := hgx.len
  have hlc := hl.cells
  unfold AV.cells at hlc
  have hmv : (icells v).length = 6 := by rw [icells_len, hv6]
  have hcv := icells_cut hv6
  have c45 := fun m => x45 (m := m) hl hmax (hl.byC _)
  have c61 := fun m => s61 (m := m) hv6
  have hze : icells zer6 = [.int .i64 0, .int .i64 0, .int .i64 0, .int .i64 0, .int .i64 0, .int .i64 0] := rfl
  have hcz : Zz.cut (icells zer6) 0 6 = some (icells zer6) := rfl
  by_cases hb : VT rows ∧ gens.length = rows.length ∧ okB 48 v
  · obtain ⟨ht, hgr, hv⟩ := hb
    have hgr1 : ((gens.length : Nat) : Int) = ((rows.length : Nat) : Int) := by omega
    rw [decide_eq_true ht] at c45
    rw [decide_eq_true hv] at c61
    refine WF.fnE rfl (fn_of Tryd.func5 cir5) (by show 3 ≤ 50; decide) ?_
    unfold ir5; dsimp only [k0, kI, mV, oO, oG]
    simp only [padTo, List.replicate, List.nil_append, List.append_nil]
    repeat' (first | (refine WO.yes rfl ?_) | (refine WO.opE (by intro; simp (disch := omega) only [go_sem, Zz.look, Nat.reduceAdd, hcv, hgr1]; rfl) (by simp only [pt8, pt1, pt2, pt3, pt4, pt5, pt6, pt7]; rfl) ?_) | (refine WO.opE (by intro; exact ev_lenS (by simp only [go_sem]; first | rfl | assumption)) (by simp only [pt8, pt0, pt3, pt5]; rfl) ?_) | (refine WO.specE rfl rfl (c45 _) (by simp only [pt8, pt4]; rfl) ?_) | (refine WO.specE rfl rfl (c61 _) (by simp only [pt8, pt0]; rfl) ?_) | (refine WC.seq ?_) | (refine WC.region ?_) | (refine WO.nil ?_) | (simp only [fl1]) | (refine WC.no rfl ?_) | (refine WC.skip ?_) | (refine WC.block ?_))
    refine WC.loopI (fun m s => ∃ T G i, s = ⟨T, G, []⟩ ∧ T.length = 50 ∧ gt T 1 = gx ∧ gt T 3 = .pref 0 0 0 ∧ gt T 5 = .pref 1 0 0 ∧ gt T 6 = .pref 2 0 0 ∧ gt T 28 = gx ∧ gt T 29 = .int .i64 (gens.length : Nat) ∧ gt T 30 = .int .i64 (i : Nat) ∧ m + i = gens.length ∧ Zz.look G 0 0 = some [l] ∧ Zz.look G 1 0 = some (icells v) ∧ Zz.look G 2 0 = some (icells zer6) ∧ ∀ t, t < i → okB 576 (rw_ gens t)) ?_ gens.length _ ⟨_, _, 0, rfl, rfl, rfl, rfl, rfl, rfl, rfl, by first | rfl | rw [hgr], rfl, by omega, rfl, rfl, rfl, fun t ht => by omega⟩
    rintro m _ ⟨T, G, i, rfl, hT, g1, g3, g5, g6, g28, g29, g30, hm, k0, k1, k2, hz⟩
    obtain ⟨f, rfl⟩ := ex50 hT
    clear hT
    replace g1 : f 1 = gx := g1
    replace g3 : f 3 = .pref 0 0 0 := g3
    replace g5 : f 5 = .pref 1 0 0 := g5
    replace g6 : f 6 = .pref 2 0 0 := g6
    replace g28 : f 28 = gx := g28
    replace g29 : f 29 = .int .i64 (gens.length : Nat) := g29
    replace g30 : f 30 = .int .i64 (i : Nat) := g30
    simp only [g1, g3, g5, g6, g28, g29, g30]
    have l0 := look_lt k0
    have l1 := look_lt k1
    have l2 := look_lt k2
    by_cases hi : i < gens.length
    · have h6 := hgx.six hi
      have hat := hgx.at hi
      have hcut := cut_row (t := tailr gens i) h6
      have hov := fun x0 x1 x2 x3 x4 x5 => icells_over6 h6 (x0 := x0) (x1 := x1) (x2 := x2) (x3 := x3) (x4 := x4) (x5 := x5)
      have hcr : (rw_ gens i).map (AV.int .i64) = icells (rw_ gens i) := rfl
      rw [hcr] at hat hcut
      have hml : (icells (rw_ gens i)).length = 6 := by rw [icells_len, h6]
      have hcut0 := icells_cut h6
      have c113 := fun m => s113 (m := m) h6
      have kk : ∀ q, q < 3 → Zz.look (G ++ [some ⟨0, icells (rw_ gens i)⟩]) q 0 = Zz.look G q 0 := fun q hq => look_left (by omega)
      by_cases hg : okB 576 (rw_ gens i)
      · rw [decide_eq_true hg] at c113
        repeat' (first | (refine WO.opE (by intro; simp (disch := omega) only [go_sem, hat, hcut, hcut0, lk0]; rfl) (by simp only [pt8, pt0, pt1, pt2, pt4, pt6, pt7]; rfl) ?_) | (refine WO.opN (by intro; simp (disch := omega) only [go_sem, Option.bind_eq_bind, app_s0, hov, hml, lk0]; rfl) ?_) | (refine WO.specE rfl rfl (c113 _) (by simp only [pt8, pt3]; rfl) ?_) | (refine WC.seq ?_) | (refine WC.region ?_) | (refine WO.nil ?_) | (simp only [fl1, fl10]) | (refine WC.no rfl ?_) | (refine WC.skip ?_) | (refine WC.block ?_) | (refine WC.em2 rfl (fun hp => ?_) (fun hp => ?_) <;> try (exfalso; first | omega | contradiction)))
        exact ⟨m - 1, by omega, _, _, i + 1, rfl, rfl, rfl, rfl, rfl, rfl, rfl, rfl, rfl, by omega, (kk 0 (by decide)).trans k0, (kk 1 (by decide)).trans k1, (kk 2 (by decide)).trans k2, fun t ht => by
          by_cases e : t = i
          · subst e; exact hg
          · exact hz t (by omega)⟩
      · rw [decide_eq_false hg] at c113
        have hno : ¬ tunOK rows gens v := fun h => hg (h.2.2.2 i hi)
        have e1 : tunP rows gens v = zer6 := if_neg fun h => hno h.1
        have e2 : errTu rows gens v = 1 := if_neg hno
        have k2' : Zz.look (G ++ [some ⟨0, icells (rw_ gens i)⟩]) 2 0 = some [.int .i64 0, .int .i64 0, .int .i64 0, .int .i64 0, .int .i64 0, .int .i64 0] := (kk 2 (by decide)).trans k2
        have hres : Zz.look ((G ++ [some ⟨0, icells (rw_ gens i)⟩] : Hp).set 2 (some ⟨0, icells zer6⟩)) 2 0 = some (icells zer6) := look_set (by simp; omega)
        rw [e1, e2]
        rw [hze] at hres hcz ⊢
        repeat' (first | (refine WO.opE (by intro; simp (disch := omega) only [go_sem, fillP, hat, hcut, hcut0, lk0]; rfl) (by simp only [pt8, pt0, pt1, pt2, pt4, pt5, pt7]; rfl) ?_) | (refine WO.opN (by intro; simp (disch := omega) only [go_sem, Option.bind_eq_bind, app_s0, Nat.reduceAdd, hov, hml, lk0, k2', setBlk]; rfl) ?_) | (refine WO.specE rfl rfl (c113 _) (by simp only [pt8, pt3]; rfl) ?_) | (refine WC.seq ?_) | (refine WC.region ?_) | (refine WO.nil ?_) | (simp only [fl1, fl2, fl5, fl8]) | (refine WC.yes rfl ?_) | (refine WC.skip ?_) | (refine WC.ret ?_) | (refine WC.block ?_) | (refine WC.em2 rfl (fun hp => ?_) (fun hp => ?_) <;> try (exfalso; first | omega | contradiction)))
        exact ⟨_, by simp only [evRes, gt6, gt7, loadCs, hres, hcz, if_true, Option.bind_some, Option.map_some]; rfl, rfl⟩
    · have hie : i = gens.length := by omega
      subst hie
      have hok : tunOK rows gens v := ⟨ht, hgr, hv, hz⟩
      repeat' (first | (refine WO.opE (by intro; simp (disch := omega) only [go_sem, fillP, Option.bind_eq_bind, ov_one0, k0, k1, hcv]; rfl) (by simp only [pt8, pt0, pt1, pt2, pt3, pt7]; rfl) ?_) | (refine WC.seq ?_) | (refine WC.region ?_) | (refine WO.nil ?_) | (simp only [fl1]) | (refine WC.exit ?_) | (refine WC.em2 rfl (fun hp => ?_) (fun hp => ?_) <;> try (exfalso; first | omega | contradiction)))
      refine WO.call rfl rfl ((f114 (E := T14) rfl (fn_of Tryd.func20 cir20) rfl hl ht.1.2 ht.2.1 hv6 hv hgx hgr hz).mono ?_)
      rintro y m' ⟨rfl, R, rfl⟩
      simp only [pt8, pt4]
      have h6 : (tuneF rows gens v).length = 6 := by simp [tuneF]
      have hov := fun x0 x1 x2 x3 x4 x5 => icells_over6 h6 (x0 := x0) (x1 := x1) (x2 := x2) (x3 := x3) (x4 := x4) (x5 := x5)
      have hml : (icells (tuneF rows gens v)).length = 6 := by rw [icells_len, h6]
      have hcut0 := icells_cut h6
      have c113 := fun m => s113 (m := m) h6
      have hGR : Zz.look (G ++ R) 2 0 = some (icells zer6) := (look_left l2).trans k2
      have lGR := look_lt hGR
      generalize (G ++ R : Hp) = G2 at *
      have k2' : Zz.look (G2 ++ [some ⟨0, icells (tuneF rows gens v)⟩]) 2 0 = some [.int .i64 0, .int .i64 0, .int .i64 0, .int .i64 0, .int .i64 0, .int .i64 0] := (look_left lGR).trans hGR
      by_cases hp : okB 576 (tuneF rows gens v)
      · rw [decide_eq_true hp] at c113
        have e1 : tunP rows gens v = tuneF rows gens v := if_pos ⟨hok, hp⟩
        have e2 : errTu rows gens v = 0 := by unfold errTu; rw [if_pos hok, if_pos hp]
        have hres : Zz.look ((G2 ++ [some ⟨0, icells (tuneF rows gens v)⟩] : Hp).set 2 (some ⟨0, icells (tuneF rows gens v)⟩)) 2 0 = some (icells (tuneF rows gens v)) := look_set (by simp; omega)
        have hcz := hcut0
        rw [e1, e2]
        repeat' (first | (refine WO.opE (by intro; simp (disch := omega) only [go_sem, hcut0, lk0]; rfl) (by simp only [pt8, pt1, pt2, pt5, pt7]; rfl) ?_) | (refine WO.opN (by intro; simp (disch := omega) only [go_sem, Option.bind_eq_bind, app_s0, hov, hml, lk0, k2', setBlk]; rfl) ?_) | (refine WO.specE rfl rfl (c113 _) (by simp only [pt8, pt6]; rfl) ?_) | (refine WC.seq ?_) | (refine WC.region ?_) | (refine WO.nil ?_) | (simp only [fl1]) | (refine WC.no rfl ?_) | (refine WC.skip ?_) | (refine WC.ret ?_))
        exact ⟨_, by simp only [evRes, gt6, gt7, loadCs, hres, hcz, if_true, Option.bind_some, Option.map_some]; rfl, rfl⟩
      · rw [decide_eq_false hp] at c113
        have e1 : tunP rows gens v = zer6 := if_neg fun h => hp h.2
        have e2 : errTu rows gens v = 3 := by unfold errTu; rw [if_pos hok, if_neg hp]
        have hres : Zz.look ((G2 ++ [some ⟨0, icells (tuneF rows gens v)⟩] : Hp).set 2 (some ⟨0, icells zer6⟩)) 2 0 = some (icells zer6) := look_set (by simp; omega)
        rw [e1, e2]
        rw [hze] at hres hcz ⊢
        repeat' (first | (refine WO.opE (by intro; simp (disch := omega) only [go_sem, fillP, hcut0, lk0]; rfl) (by simp only [pt8, pt0, pt2, pt5, pt7]; rfl) ?_) | (refine WO.opN (by intro; simp (disch := omega) only [go_sem, Option.bind_eq_bind, app_s0, Nat.reduceAdd, hov, hml, lk0, k2', setBlk]; rfl) ?_) | (refine WO.specE rfl rfl (c113 _) (by simp only [pt8, pt6]; rfl) ?_) | (refine WC.seq ?_) | (refine WC.region ?_) | (refine WO.nil ?_) | (simp only [fl1, fl2]) | (refine WC.yes rfl ?_) | (refine WC.ret ?_))
        exact ⟨_, by simp only [evRes, gt6, gt7, loadCs, hres, hcz, if_true, Option.bind_some, Option.map_some]; rfl, rfl⟩
  · have hno : ¬ tunOK rows gens v := fun h => hb ⟨h.1, h.2.1, h.2.2.1⟩
    have e1 : tunP rows gens v = zer6 := if_neg fun h => hno h.1
    have e2 : errTu rows gens v = 1 := if_neg hno
    rw [e1, e2]
    by_cases ht : VT rows
    · rw [decide_eq_true ht] at c45
      by_cases hgr : gens.length = rows.length
      · have hgr1 : ((gens.length : Nat) : Int) = ((rows.length : Nat) : Int) := by omega
        have hv : ¬ okB 48 v := fun h => hb ⟨ht, hgr, h⟩
        rw [decide_eq_false hv] at c61
        refine WF.fnE rfl (fn_of Tryd.func5 cir5) (by show 3 ≤ 50; decide) ?_
        unfold ir5; dsimp only [k0, kI, mV, oO, oG]
        simp only [padTo, List.replicate, List.nil_append, List.append_nil]
        repeat' (first | (refine WO.yes rfl ?_) | (refine WO.opE (by intro; simp (disch := omega) only [go_sem, Zz.look, fillP, Nat.reduceAdd, hcv, hgr1]; rfl) (by simp only [pt8, pt1, pt2, pt3, pt4, pt5, pt6, pt7]; rfl) ?_) | (refine WO.opN (by intro; simp (disch := omega) only [go_sem, Zz.look, Option.bind_eq_bind, Nat.reduceAdd, hgr1, setBlk, List.set_cons_zero, List.set_cons_succ]; rfl) ?_) | (refine WO.opE (by intro; exact ev_lenS (by simp only [go_sem]; first | rfl | assumption)) (by simp only [pt8, pt0, pt3]; rfl) ?_) | (refine WO.specE rfl rfl (c45 _) (by simp only [pt8, pt4]; rfl) ?_) | (refine WO.specE rfl rfl (c61 _) (by simp only [pt8, pt0]; rfl) ?_) | (refine WC.seq ?_) | (refine WC.region ?_) | (refine WO.nil ?_) | (simp only [fl1, fl2]) | (refine WC.yes rfl ?_) | (refine WC.ret ?_))
        exact ⟨_, rfl, rfl⟩
      · have hgr1 : ¬ ((gens.length : Nat) : Int) = ((rows.length : Nat) : Int) := by omega
        refine WF.fnE rfl (fn_of Tryd.func5 cir5) (by show 3 ≤ 50; decide) ?_
        unfold ir5; dsimp only [k0, kI, mV, oO, oG]
        simp only [padTo, List.replicate, List.nil_append, List.append_nil]
        repeat' (first | (refine WO.yes rfl ?_) | (refine WO.noE rfl (by simp only [pt8, pt0, pt1, pt7]; rfl) ?_) | (refine WO.opE (by intro; simp (disch := omega) only [go_sem, Zz.look, fillP, Nat.reduceAdd]; rfl) (by simp only [pt8, pt1, pt2, pt3, pt4, pt5, pt6, pt7]; rfl) ?_) | (refine WO.opN (by intro; simp (disch := omega) only [go_sem, Zz.look, Option.bind_eq_bind, Nat.reduceAdd, setBlk, List.set_cons_zero, List.set_cons_succ]; rfl) ?_) | (refine WO.opE (by intro; exact ev_lenS (by simp only [go_sem]; first | rfl | assumption)) (by simp only [pt8, pt0, pt3]; rfl) ?_) | (refine WO.specE rfl rfl (c45 _) (by simp only [pt8, pt4]; rfl) ?_) | (refine WC.seq ?_) | (refine WC.region ?_) | (refine WO.nil ?_) | (simp only [fl1, fl2]) | (refine WC.yes rfl ?_) | (refine WC.ret ?_) | (refine WO.em2 rfl (by intro hp; simp only [hp]; rfl) (by intro hp; simp only [hp, decide_false]; rfl) (fun hp => ?_) (fun hp => ?_) <;> try (exfalso; first | omega | contradiction)))
        exact ⟨_, rfl, rfl⟩
    · rw [decide_eq_false ht] at c45
      refine WF.fnE rfl (fn_of Tryd.func5 cir5) (by show 3 ≤ 50; decide) ?_
      unfold ir5; dsimp only [k0, kI, mV, oO, oG]
      simp only [padTo, List.replicate, List.nil_append, List.append_nil]
      repeat' (first | (refine WO.noE rfl (by simp only [pt8, pt0, pt1, pt2, pt3, pt4, pt7]; rfl) ?_) | (refine WO.opE (by intro; simp (disch := omega) only [go_sem, Zz.look, fillP, Nat.reduceAdd]; rfl) (by simp only [pt8, pt2, pt3, pt5, pt6, pt7]; rfl) ?_) | (refine WO.opN (by intro; simp (disch := omega) only [go_sem, Zz.look, Option.bind_eq_bind, Nat.reduceAdd, setBlk, List.set_cons_zero, List.set_cons_succ]; rfl) ?_) | (refine WO.specE rfl rfl (c45 _) (by simp only [pt8, pt4]; rfl) ?_) | (refine WC.seq ?_) | (refine WC.region ?_) | (refine WO.nil ?_) | (simp only [fl1, fl2]) | (refine WC.yes rfl ?_) | (refine WC.ret ?_))
      exact ⟨_, rfl, rfl⟩
theorem x57 {l l' gx gx' : AV} {rows gens : List (List Int)} {v : List Int} (hl : RwL l rows) (hmax : rows.length < 9223372036854775807) (hgx : RwL gx gens) (hgm : gens.length < 9223372036854775807) (hv6 : v.length = 6) {m : Mem} (h0 : Zz.byC m.heap l' = some l) (h1 : Zz.byVal m.heap gx' = some gx) :
    borrowX T14 5 [.agg [l'], gx', .agg (icells v)] m = some (.tuple [.agg (icells (tunP rows gens v)), .int .i64 (errTu rows gens v)], m) :=
  borrowX_of (byVals_cons (byMap h0) (byVals_cons h1 (byVals_cons (byI _ _) rfl))) ((f57 hl hmax hgx hgm hv6).mono fun y m' h => by rw [h]; exact newV_two (newI6 _ _))
noncomputable def T15 : Env := T14.put 5 (borrowX T14 5)
theorem T15_ok : EnvOk Tryd.prog T15 := Env.put_ok T14_ok (borrowX_ok T14_ok (callable Tryd.func5 (by kernel_rfl)))
end Go.Proofs.YtnilimjkibimcaaDoor

