import Derived.Test.YtnilimjkibimcaaTb
set_option linter.unusedSimpArgs false
set_option linter.unusedVariables false

namespace Go.Proofs.Ytnilimjkibimcaa
open Go.Zz
set_option maxRecDepth 100000
set_option maxHeartbeats 8000000
theorem f49 {x y : AV} {a b : List Int} (hx : IntS x a) (hy : IntS y b) (ha : a.length < 1000000) : WF T3 (.func 49 [] []) [x, y] ⟨[], []⟩ fun v m' => v = .bool (decide (a = b)) := by
  have hxl := hx.len
  have hyl := hy.len
  by_cases hl : a.length = b.length
  · have hl1 : (a.length : Int) = (b.length : Int) := by omega
    refine WF.fnE rfl (fn_of Try.func49 cir49) (by show 2 ≤ 26; decide) ?_
    unfold ir49; dsimp only [k0, kI, mV, oO, oG]
    simp only [padTo, List.replicate, List.nil_append, List.append_nil]
    repeat' (first | (refine WO.opE (by intro; simp (disch := omega) only [go_sem, hl1]; rfl) (by simp only [pt8, pt0, pt2, pt4, pt5, pt6]; rfl) ?_) | (refine WO.opE (by intro; exact ev_lenS (by simp only [go_sem]; first | rfl | assumption)) (by simp only [pt8, pt1, pt7]; rfl) ?_) | (refine WC.seq ?_) | (refine WC.region ?_) | (refine WO.nil ?_) | (simp only [fl1]) | (refine WC.no rfl ?_) | (refine WC.skip ?_) | (refine WC.block ?_))
    refine WC.loopI (fun m s => ∃ T i, s = ⟨T, [], []⟩ ∧ T.length = 26 ∧ gt T 0 = x ∧ gt T 1 = y ∧ gt T 5 = .int .i64 (i : Nat) ∧ m + i = a.length ∧ ∀ t, t < i → a.getD t 0 = b.getD t 0) ?_ a.length _ ⟨_, 0, rfl, rfl, rfl, rfl, rfl, by omega, fun t ht => by omega⟩
    rintro m _ ⟨T, i, rfl, hT, g0, g1, g5, hm, hi⟩
    obtain ⟨f, rfl⟩ := ex26 hT
    clear hT
    replace g0 : f 0 = x := g0
    replace g1 : f 1 = y := g1
    replace g5 : f 5 = .int .i64 (i : Nat) := g5
    simp only [g0, g1, g5]
    by_cases hin : i < a.length
    · have hat := hx.atI (i := (i : Int)) (by omega) (by omega)
      have hbt := hy.atI (i := (i : Int)) (by omega) (by omega)
      rw [toNat_cast] at hat hbt
      by_cases he : a.getD i 0 = b.getD i 0
      · rw [← he] at hbt
        repeat' (first | (refine WO.opE (by intro; simp (disch := omega) only [go_sem, hat, hbt]; rfl) (by simp only [pt8, pt0, pt1, pt2, pt3, pt4, pt5, pt6, pt7]; rfl) ?_) | (refine WO.opE (by intro; exact ev_lenS (by simp only [go_sem]; first | rfl | assumption)) (by simp only [pt8, pt5]; rfl) ?_) | (refine WC.seq ?_) | (refine WC.region ?_) | (refine WO.nil ?_) | (simp only [fl1, fl10]) | (refine WC.calm rfl ?_) | (refine WC.no rfl ?_) | (refine WC.skip ?_) | (refine WC.block ?_) | (refine WC.em2 rfl (fun hp => ?_) (fun hp => ?_) <;> try (exfalso; first | omega | contradiction)))
        exact ⟨m - 1, by omega, _, i + 1, rfl, rfl, rfl, rfl, rfl, by omega, fun t ht => by
          by_cases e : t = i
          · subst e; exact he
          · exact hi t (by omega)⟩
      · have hd : a ≠ b := fun h => he (by rw [h])
        repeat' (first | (refine WO.opE (by intro; simp (disch := omega) only [go_sem, hat, hbt]; rfl) (by simp only [pt8, pt0, pt1, pt2, pt3, pt4, pt5, pt6, pt7]; rfl) ?_) | (refine WO.opE (by intro; exact ev_lenS (by simp only [go_sem]; first | rfl | assumption)) (by simp only [pt8, pt5]; rfl) ?_) | (refine WC.seq ?_) | (refine WC.region ?_) | (refine WO.nil ?_) | (simp only [fl1, fl2, fl5, fl8]) | (refine WC.calm rfl ?_) | (refine WC.skip ?_) | (refine WC.ret ?_) | (refine WC.block ?_) | (refine WC.em2 rfl (fun hp => ?_) (fun hp => ?_) <;> try (exfalso; first | omega | contradiction)))
        exact ⟨_, rfl, by simp only [oneRes, gt4]; rw [decide_eq_false hd]⟩
    · have hie : i = a.length := by omega
      subst hie
      repeat' (first | (refine WO.opE (by intro; simp (disch := omega) only [go_sem]; rfl) (by simp only [pt8, pt3, pt4, pt6]; rfl) ?_) | (refine WO.opE (by intro; exact ev_lenS (by simp only [go_sem]; first | rfl | assumption)) (by simp only [pt8, pt5]; rfl) ?_) | (refine WC.seq ?_) | (refine WC.region ?_) | (refine WO.nil ?_) | (simp only [fl1]) | (refine WC.exit ?_) | (refine WC.ret ?_) | (refine WC.em2 rfl (fun hp => ?_) (fun hp => ?_) <;> try (exfalso; first | omega | contradiction)))
      exact ⟨_, rfl, by simp only [oneRes, gt4]; rw [decide_eq_true (intS_ne.2 ⟨hl, hi⟩)]⟩
  · have hd : a ≠ b := fun h => hl (by rw [h])
    refine WF.fnE rfl (fn_of Try.func49 cir49) (by show 2 ≤ 26; decide) ?_
    unfold ir49; dsimp only [k0, kI, mV, oO, oG]
    simp only [padTo, List.replicate, List.nil_append, List.append_nil]
    repeat' (first | (refine WO.opE (by intro; simp (disch := omega) only [go_sem]; rfl) (by simp only [pt8, pt0, pt2, pt4, pt6]; rfl) ?_) | (refine WO.opE (by intro; exact ev_lenS (by simp only [go_sem]; first | rfl | assumption)) (by simp only [pt8, pt1, pt7]; rfl) ?_) | (refine WC.seq ?_) | (refine WC.region ?_) | (refine WO.nil ?_) | (simp only [fl1, fl2]) | (refine WC.ret ?_) | (refine WC.em2 rfl (fun hp => ?_) (fun hp => ?_) <;> try (exfalso; first | omega | contradiction)))
    exact ⟨_, rfl, by simp only [oneRes, gt4]; rw [decide_eq_false hd]⟩
theorem f54 {x y : AV} {a b : List (List Int)} (hx : RwL x a) (hy : RwL y b) (ha : a.length < 1000000) : WF T3 (.func 54 [] []) [x, y] ⟨[], []⟩ fun v m' => v = .bool (decide (a = b)) := by
  have hxl := hx.len
  have hyl := hy.len
  by_cases hl : a.length = b.length
  · have hl1 : (a.length : Int) = (b.length : Int) := by omega
    refine WF.fnE rfl (fn_of Try.func54 cir54) (by show 2 ≤ 26; decide) ?_
    unfold ir54; dsimp only [k0, kI, mV, oO, oG]
    simp only [padTo, List.replicate, List.nil_append, List.append_nil]
    repeat' (first | (refine WO.opE (by intro; simp (disch := omega) only [go_sem, hl1]; rfl) (by simp only [pt8, pt0, pt2, pt4, pt5, pt6]; rfl) ?_) | (refine WO.opE (by intro; exact ev_lenS (by simp only [go_sem]; first | rfl | assumption)) (by simp only [pt8, pt1, pt7]; rfl) ?_) | (refine WC.seq ?_) | (refine WC.region ?_) | (refine WO.nil ?_) | (simp only [fl1]) | (refine WC.no rfl ?_) | (refine WC.skip ?_) | (refine WC.block ?_))
    refine WC.loopI (fun m s => ∃ T i, s = ⟨T, [], []⟩ ∧ T.length = 26 ∧ gt T 0 = x ∧ gt T 1 = y ∧ gt T 5 = .int .i64 (i : Nat) ∧ m + i = a.length ∧ ∀ t, t < i → rw_ a t = rw_ b t) ?_ a.length _ ⟨_, 0, rfl, rfl, rfl, rfl, rfl, by omega, fun t ht => by omega⟩
    rintro m _ ⟨T, i, rfl, hT, g0, g1, g5, hm, hi⟩
    obtain ⟨f, rfl⟩ := ex26 hT
    clear hT
    replace g0 : f 0 = x := g0
    replace g1 : f 1 = y := g1
    replace g5 : f 5 = .int .i64 (i : Nat) := g5
    simp only [g0, g1, g5]
    by_cases hin : i < a.length
    · have hat := hx.at hin
      have hbt := hy.at (show i < b.length by omega)
      have h6 := hx.six hin
      have h6' := hy.six (show i < b.length by omega)
      have hc1 := cut_row (t := tailr a i) h6
      have hc2 := cut_row (t := tailr b i) h6'
      have hce := cellsEq_int (r := rw_ a i) (r' := rw_ b i) (by omega)
      rw [h6] at hce
      have hce' : cellsEq [true, true, true, true, true, true] ((rw_ a i).map (.int .i64)) ((rw_ b i).map (.int .i64)) = some (decide (rw_ a i = rw_ b i)) := hce
      by_cases he : rw_ a i = rw_ b i
      · rw [decide_eq_true he] at hce'
        repeat' (first | (refine WO.opE (by intro; simp (disch := omega) only [go_sem, hat, hbt, hc1, hc2, hce', Option.map_some, Bool.not_true]; rfl) (by simp only [pt8, pt0, pt1, pt2, pt3, pt4, pt5, pt6, pt7]; rfl) ?_) | (refine WO.opE (by intro; exact ev_lenS (by simp only [go_sem]; first | rfl | assumption)) (by simp only [pt8, pt5]; rfl) ?_) | (refine WC.seq ?_) | (refine WC.region ?_) | (refine WO.nil ?_) | (simp only [fl1, fl10]) | (refine WC.calm rfl ?_) | (refine WC.no rfl ?_) | (refine WC.skip ?_) | (refine WC.block ?_) | (refine WC.em2 rfl (fun hp => ?_) (fun hp => ?_) <;> try (exfalso; first | omega | contradiction)))
        exact ⟨m - 1, by omega, _, i + 1, rfl, rfl, rfl, rfl, rfl, by omega, fun t ht => by
          by_cases e : t = i
          · subst e; exact he
          · exact hi t (by omega)⟩
      · rw [decide_eq_false he] at hce'
        have hd : a ≠ b := fun h => he (by rw [h])
        repeat' (first | (refine WO.opE (by intro; simp (disch := omega) only [go_sem, hat, hbt, hc1, hc2, hce', Option.map_some, Bool.not_false]; rfl) (by simp only [pt8, pt0, pt1, pt2, pt3, pt4, pt5, pt6, pt7]; rfl) ?_) | (refine WO.opE (by intro; exact ev_lenS (by simp only [go_sem]; first | rfl | assumption)) (by simp only [pt8, pt5]; rfl) ?_) | (refine WC.seq ?_) | (refine WC.region ?_) | (refine WO.nil ?_) | (simp only [fl1, fl2, fl5, fl8]) | (refine WC.calm rfl ?_) | (refine WC.yes rfl ?_) | (refine WC.skip ?_) | (refine WC.ret ?_) | (refine WC.block ?_) | (refine WC.em2 rfl (fun hp => ?_) (fun hp => ?_) <;> try (exfalso; first | omega | contradiction)))
        exact ⟨_, rfl, by simp only [oneRes, gt4]; rw [decide_eq_false hd]⟩
    · have hie : i = a.length := by omega
      subst hie
      have hd : a = b := List.ext_getElem hl fun t h1 h2 => by have := hi t h1; rwa [rw_lt h1, rw_lt h2] at this
      repeat' (first | (refine WO.opE (by intro; simp (disch := omega) only [go_sem]; rfl) (by simp only [pt8, pt3, pt4, pt6]; rfl) ?_) | (refine WO.opE (by intro; exact ev_lenS (by simp only [go_sem]; first | rfl | assumption)) (by simp only [pt8, pt5]; rfl) ?_) | (refine WC.seq ?_) | (refine WC.region ?_) | (refine WO.nil ?_) | (simp only [fl1]) | (refine WC.exit ?_) | (refine WC.ret ?_) | (refine WC.em2 rfl (fun hp => ?_) (fun hp => ?_) <;> try (exfalso; first | omega | contradiction)))
      exact ⟨_, rfl, by simp only [oneRes, gt4]; rw [decide_eq_true hd]⟩
  · have hd : a ≠ b := fun h => hl (by rw [h])
    refine WF.fnE rfl (fn_of Try.func54 cir54) (by show 2 ≤ 26; decide) ?_
    unfold ir54; dsimp only [k0, kI, mV, oO, oG]
    simp only [padTo, List.replicate, List.nil_append, List.append_nil]
    repeat' (first | (refine WO.opE (by intro; simp (disch := omega) only [go_sem]; rfl) (by simp only [pt8, pt0, pt2, pt4, pt6]; rfl) ?_) | (refine WO.opE (by intro; exact ev_lenS (by simp only [go_sem]; first | rfl | assumption)) (by simp only [pt8, pt1, pt7]; rfl) ?_) | (refine WC.seq ?_) | (refine WC.region ?_) | (refine WO.nil ?_) | (simp only [fl1, fl2]) | (refine WC.ret ?_) | (refine WC.em2 rfl (fun hp => ?_) (fun hp => ?_) <;> try (exfalso; first | omega | contradiction)))
    exact ⟨_, rfl, by simp only [oneRes, gt4]; rw [decide_eq_false hd]⟩
theorem x49 {x y x' y' : AV} {a b : List Int} (hx : IntS x a) (hy : IntS y b) (ha : a.length < 1000000) {m : Mem} (h0 : Zz.byVal m.heap x' = some x) (h1 : Zz.byVal m.heap y' = some y) : borrowX T3 49 [x', y'] m = some (.bool (decide (a = b)), m) :=
  borrowX_of (byVals_cons h0 (byVals_cons h1 rfl)) ((f49 hx hy ha).mono fun y m' h => by rw [h]; rfl)
theorem x54 {x y x' y' : AV} {a b : List (List Int)} (hx : RwL x a) (hy : RwL y b) (ha : a.length < 1000000) {m : Mem} (h0 : Zz.byVal m.heap x' = some x) (h1 : Zz.byVal m.heap y' = some y) : borrowX T3 54 [x', y'] m = some (.bool (decide (a = b)), m) :=
  borrowX_of (byVals_cons h0 (byVals_cons h1 rfl)) ((f54 hx hy ha).mono fun y m' h => by rw [h]; rfl)
noncomputable def T9 : Env := T8.put 49 (borrowX T3 49)
theorem T9_ok : EnvOk Try.prog T9 := Env.put_ok T8_ok (borrowX_ok T3_ok (callable Try.func49 (by kernel_rfl)))
noncomputable def T10 : Env := T9.put 54 (borrowX T3 54)
theorem T10_ok : EnvOk Try.prog T10 := Env.put_ok T9_ok (borrowX_ok T3_ok (callable Try.func54 (by kernel_rfl)))
def dotN (a b : List Int) (j : Nat) : Int := psumF (fun j => a.getD j 0 * b.getD j 0) j
def dotF (a b : List Int) : Int := dotN a b 6
def imgF (rows : List (List Int)) (v : List Int) : List Int := rows.map fun r => dotF r v
theorem mul_bb {a b : Int} {A B : Int} (ha : -A ≤ a ∧ a ≤ A) (hb : -B ≤ b ∧ b ≤ B) : -(A * B) ≤ a * b ∧ a * b ≤ A * B := by
  have h1 := Int.mul_nonneg (show 0 ≤ A - a by omega) (show 0 ≤ B - b by omega)
  have h2 := Int.mul_nonneg (show 0 ≤ A + a by omega) (show 0 ≤ B + b by omega)
  have h3 := Int.mul_nonneg (show 0 ≤ A - a by omega) (show 0 ≤ B + b by omega)
  have h4 := Int.mul_nonneg (show 0 ≤ A + a by omega) (show 0 ≤ B - b by omega)
  constructor <;> grind
theorem dot_bd {a b : List Int} {A B : Int} (ha : okB A a) (hb : okB B b) : ∀ j, j ≤ 6 → -(j * (A * B)) ≤ dotN a b j ∧ dotN a b j ≤ j * (A * B)
  | 0, _ => by simp [dotN, psumF]
  | j + 1, hj => by
    have ih := dot_bd ha hb j (by omega)
    have hm := mul_bb (ha j (by omega)) (hb j (by omega))
    have e : dotN a b (j + 1) = dotN a b j + a.getD j 0 * b.getD j 0 := rfl
    have e2 : ((j + 1 : Nat) : Int) * (A * B) = j * (A * B) + A * B := by rw [Int.natCast_add, Int.add_mul]; simp
    rw [e, e2]
    omega
theorem byI (H : Hp) (r : List Int) : Zz.byVal H (.agg (icells r)) = some (.agg (icells r)) := by
  have : ∀ r : List Int, Zz.byL H (icells r) = some (icells r) := fun r => by
    induction r with
    | nil => rfl
    | cons x r ih =>
      show (match Zz.byC H (.int .i64 x), Zz.byL H (icells r) with | some a, some l => some (a :: l) | _, _ => none) = _
      rw [ih]
      rfl
  simp only [Zz.byVal, this]
theorem img_at {rows : List (List Int)} {v : List Int} {t : Nat} (ht : t < rows.length) : (imgF rows v).getD t 0 = dotF (rw_ rows t) v := by
  unfold imgF
  rw [rw_lt ht]
  simp [List.getD_eq_getElem?_getD, ht]
theorem img_len (rows : List (List Int)) (v : List Int) : (imgF rows v).length = rows.length := List.length_map _
theorem f110 {l : AV} {rows : List (List Int)} {v : List Int} (hl : RwL l rows) (h3 : rows.length ≤ 3) (hr : ∀ i, i < rows.length → okB 400 (rw_ rows i)) (hv6 : v.length = 6) (hv : okB 48 v) :
    WF T10 (.func 110 [] []) [.agg [l], .agg (icells v)] ⟨[], []⟩ fun y m' => y = .sref 2 0 0 1 rows.length (some rows.length) ∧ Zz.look m'.heap 2 0 = some (icells (imgF rows v)) := by
  have hll := hl.len
  have hlc := hl.cells
  unfold AV.cells at hlc
  have hmv : (icells v).length = 6 := by rw [icells_len, hv6]
  refine WF.fnE rfl (fn_of Try.func110 cir110) (by show 2 ≤ 43; decide) ?_
  unfold ir110; dsimp only [k0, kI, mV, oO, oG]
  simp only [padTo, List.replicate, List.nil_append, List.append_nil]
  repeat' (first | (refine WO.opE (by intro; simp (disch := omega) only [go_sem, Zz.look, List.cons_append, List.nil_append, Nat.reduceAdd]; rfl) (by simp only [pt8, pt0, pt1, pt2, pt3, pt4, pt5, pt7]; rfl) ?_) | (refine WO.opE (by intro; exact ev_lenS (by simp only [go_sem]; first | rfl | assumption)) (by simp only [pt8, pt2, pt5]; rfl) ?_) | (refine WO.opE (by intro; exact mk_row (by omega) rfl rfl) (by simp only [pt8, pt6]; rfl) ?_) | (refine WC.seq ?_) | (refine WC.region ?_) | (refine WO.nil ?_) | (simp only [fl1]) | (refine WC.block ?_))
  refine WC.loopI (fun m s => ∃ T G w i, s = ⟨T, G, []⟩ ∧ T.length = 43 ∧ gt T 2 = .pref 0 0 0 ∧ gt T 3 = .pref 1 0 0 ∧ gt T 5 = .sref 2 0 0 1 rows.length (some rows.length) ∧ gt T 17 = l ∧ gt T 18 = .int .i64 (rows.length : Nat) ∧ gt T 19 = .int .i64 (i : Nat) ∧ m + i = rows.length ∧ Zz.look G 0 0 = some [l] ∧ Zz.look G 1 0 = some (icells v) ∧ Zz.look G 2 0 = some (icells w) ∧ w.length = rows.length ∧ (∀ t, t < i → w.getD t 0 = dotF (rw_ rows t) v) ∧ ∀ t, i ≤ t → w.getD t 0 = 0) ?_ rows.length _ ⟨_, _, List.replicate rows.length 0, 0, rfl, rfl, rfl, rfl, rfl, rfl, rfl, rfl, by omega, rfl, rfl, rfl, by simp, fun t ht => by omega, fun t _ => by simp [List.getD_eq_getElem?_getD, List.getElem?_replicate]; split <;> rfl⟩
  rintro m _ ⟨T, G, w, i, rfl, hT, g2, g3, g5, g17, g18, g19, hm, k0, k1, k2, hwl, hw1, hw2⟩
  obtain ⟨f, rfl⟩ := ex43 hT
  clear hT
  replace g2 : f 2 = .pref 0 0 0 := g2
  replace g3 : f 3 = .pref 1 0 0 := g3
  replace g5 : f 5 = .sref 2 0 0 1 rows.length (some rows.length) := g5
  replace g17 : f 17 = l := g17
  replace g18 : f 18 = .int .i64 (rows.length : Nat) := g18
  replace g19 : f 19 = .int .i64 (i : Nat) := g19
  simp only [g2, g3, g5, g17, g18, g19]
  have l2 := look_lt k2
  by_cases hi : i < rows.length
  · have h6 := hl.six hi
    have hat := hl.at hi
    have hcut := cut_row (t := tailr rows i) h6
    have hov := fun x0 x1 x2 x3 x4 x5 => icells_over6 h6 (x0 := x0) (x1 := x1) (x2 := x2) (x3 := x3) (x4 := x4) (x5 := x5)
    have hcr : (rw_ rows i).map (AV.int .i64) = icells (rw_ rows i) := rfl
    rw [hcr] at hat hcut
    have hml : (icells (rw_ rows i)).length = 6 := by rw [icells_len, h6]
    have hcut0 := icells_cut h6
    have hri := hr i hi
    repeat' (first | (refine WO.opE (by intro; simp (disch := omega) only [go_sem, hat, hcut, hcut0, lk0]; rfl) (by simp only [pt8, pt0, pt1, pt4, pt5, pt6, pt7]; rfl) ?_) | (refine WO.opN (by intro; simp (disch := omega) only [go_sem, Option.bind_eq_bind, app_s0, hov, hml, lk0]; rfl) ?_) | (refine WC.seq ?_) | (refine WC.region ?_) | (refine WO.nil ?_) | (simp only [fl1]) | (refine WC.skip ?_) | (refine WC.block ?_) | (refine WC.em2 rfl (fun hp => ?_) (fun hp => ?_) <;> try (exfalso; first | omega | contradiction)))
    refine WC.loopI (fun m2 s => ∃ T G w j, s = ⟨T, G ++ [some ⟨0, icells (rw_ rows i)⟩], []⟩ ∧ T.length = 43 ∧ gt T 2 = .pref 0 0 0 ∧ gt T 3 = .pref 1 0 0 ∧ gt T 5 = .sref 2 0 0 1 rows.length (some rows.length) ∧ gt T 17 = l ∧ gt T 18 = .int .i64 (rows.length : Nat) ∧ gt T 19 = .int .i64 (i : Nat) ∧ gt T 6 = .int .i64 (i : Nat) ∧ gt T 24 = .agg (icells (rw_ rows i)) ∧ gt T 25 = .int .i64 (j : Nat) ∧ m2 + j = 6 ∧ Zz.look G 0 0 = some [l] ∧ Zz.look G 1 0 = some (icells v) ∧ Zz.look G 2 0 = some (icells w) ∧ w.length = rows.length ∧ (∀ t, t < i → w.getD t 0 = dotF (rw_ rows t) v) ∧ (∀ t, i < t → w.getD t 0 = 0) ∧ w.getD i 0 = dotN (rw_ rows i) v j) ?_ 6 _ ⟨_, G, w, 0, rfl, rfl, rfl, rfl, rfl, rfl, rfl, rfl, rfl, rfl, rfl, by omega, k0, k1, k2, hwl, hw1, fun t ht => hw2 t (by omega), hw2 i (Nat.le_refl _)⟩
    clear g2 g3 g5 g17 g18 g19 f k0 k1 k2 hwl hw1 hw2 l2 w G
    rintro m2 _ ⟨T, G, w, j, rfl, hT, g2, g3, g5, g17, g18, g19, g6, g24, g25, hm2, k0, k1, k2, hwl, hw1, hw2, hw3⟩
    obtain ⟨f, rfl⟩ := ex43 hT
    clear hT
    replace g2 : f 2 = .pref 0 0 0 := g2
    replace g3 : f 3 = .pref 1 0 0 := g3
    replace g5 : f 5 = .sref 2 0 0 1 rows.length (some rows.length) := g5
    replace g17 : f 17 = l := g17
    replace g18 : f 18 = .int .i64 (rows.length : Nat) := g18
    replace g19 : f 19 = .int .i64 (i : Nat) := g19
    replace g6 : f 6 = .int .i64 (i : Nat) := g6
    replace g24 : f 24 = .agg (icells (rw_ rows i)) := g24
    replace g25 : f 25 = .int .i64 (j : Nat) := g25
    simp only [g2, g3, g5, g17, g18, g19, g6, g24, g25]
    have l0 := look_lt k0
    have l1 := look_lt k1
    have l2 := look_lt k2
    have kk1 : Zz.look (G ++ [some ⟨0, icells (rw_ rows i)⟩]) 1 0 = some (icells v) := (look_left l1).trans k1
    have kk2 : Zz.look (G ++ [some ⟨0, icells (rw_ rows i)⟩]) 2 0 = some (icells w) := (look_left l2).trans k2
    by_cases hj : j < 6
    · have hia := icells_at (r := rw_ rows i) (j := j) (by omega)
      have hiv := icells_at (r := v) (j := j) (by omega)
      have hiw := icells_at (r := w) (j := i) (by omega)
      rw [hw3] at hiw
      have hov2 := icells_over (r := w) (j := i) (by omega) (dotN (rw_ rows i) v j + (rw_ rows i).getD j 0 * v.getD j 0)
      have hix : indexAddrAV 1 (.sref 2 0 0 1 rows.length (some rows.length)) (.int .i64 (i : Int)) = some (.pref 2 0 i) := by rw [ia_sref, idx_nat hi]; simp
      have b1 := dot_bd hri hv j (by omega)
      have b2 := dot_bd hri hv (j + 1) (by omega)
      have b3 := mul_bb (hri j hj) (hv j hj)
      have hd : dotN (rw_ rows i) v (j + 1) = dotN (rw_ rows i) v j + (rw_ rows i).getD j 0 * v.getD j 0 := rfl
      rw [← hd] at hov2
      have hst : (G ++ [some ⟨0, icells (rw_ rows i)⟩] : Hp).set 2 (some ⟨0, icells (w.set i (dotN (rw_ rows i) v (j + 1)))⟩) = G.set 2 (some ⟨0, icells (w.set i (dotN (rw_ rows i) v (j + 1)))⟩) ++ [some ⟨0, icells (rw_ rows i)⟩] := List.set_append_left _ _ l2
      repeat' (first | (refine WO.opE (by intro; simp (disch := omega) only [go_sem, hia, hiv, hiw, hix, kk1, kk2, ← hd, Nat.mul_one, Nat.zero_add]; rfl) (by simp only [pt8, pt0, pt1, pt2, pt3, pt4, pt5, pt6, pt7]; rfl) ?_) | (refine WO.opN (by intro; simp (disch := omega) only [go_sem, Option.bind_eq_bind, kk2, hov2, hst, setBlk, Nat.zero_add]; rfl) ?_) | (refine WC.seq ?_) | (refine WC.region ?_) | (refine WO.nil ?_) | (simp only [fl1, fl10]) | (refine WC.calm rfl ?_) | (refine WC.skip ?_) | (refine WC.block ?_) | (refine WC.em2 rfl (fun hp => ?_) (fun hp => ?_) <;> try (exfalso; first | omega | contradiction)))
      have n20 : ∀ q, q < 2 → ∀ c, Zz.look G q 0 = some c → Zz.look (G.set 2 (some ⟨0, icells (w.set i (dotN (rw_ rows i) v (j + 1)))⟩)) q 0 = some c := fun q hq c h => (look_of_get (List.getElem?_set_ne (by omega))).trans h
      exact ⟨m2 - 1, by omega, _, _, w.set i (dotN (rw_ rows i) v (j + 1)), j + 1, rfl, rfl, rfl, rfl, rfl, rfl, rfl, rfl, rfl, rfl, rfl, by omega, n20 0 (by decide) _ k0, n20 1 (by decide) _ k1, look_set l2, by simpa using hwl, fun t ht => by rw [getD_set_ne (by omega)]; exact hw1 t ht, fun t ht => by rw [getD_set_ne (by omega)]; exact hw2 t ht, getD_set_self (by omega)⟩
    · have hje : j = 6 := by omega
      subst hje
      repeat' (first | (refine WO.opE (by intro; simp (disch := omega) only [go_sem]; rfl) (by simp only [pt8, pt1, pt2, pt3]; rfl) ?_) | (refine WC.seq ?_) | (refine WC.region ?_) | (refine WO.nil ?_) | (simp only [fl10]) | (refine WC.no rfl ?_) | (refine WC.exit ?_))
      exact ⟨m - 1, by omega, _, _, w, i + 1, rfl, rfl, rfl, rfl, rfl, rfl, rfl, rfl, by omega, (look_left l0).trans k0, kk1, kk2, hwl, fun t ht => by
        by_cases e : t = i
        · subst e; exact hw3
        · exact hw1 t (by omega), fun t ht => hw2 t (by omega)⟩
  · have hie : i = rows.length := by omega
    subst hie
    have hwe : w = imgF rows v := getD_ext (by rw [hwl, img_len]) fun t ht => by rw [hw1 t (by omega), img_at (by omega)]
    subst hwe
    repeat' (first | (refine WO.opE (by intro; simp (disch := omega) only [go_sem]; rfl) (by simp only [pt8, pt2, pt4]; rfl) ?_) | (refine WC.seq ?_) | (refine WC.region ?_) | (refine WO.nil ?_) | (simp only [fl1]) | (refine WC.exit ?_) | (refine WC.ret ?_) | (refine WC.em2 rfl (fun hp => ?_) (fun hp => ?_) <;> try (exfalso; first | omega | contradiction)))
    exact ⟨_, rfl, rfl, k2⟩
theorem r110 {l l' : AV} {rows : List (List Int)} {v : List Int} (hl : RwL l rows) (h3 : rows.length ≤ 3) (hr : ∀ i, i < rows.length → okB 400 (rw_ rows i)) (hv6 : v.length = 6) (hv : okB 48 v) {m : Mem} (h0 : Zz.byC m.heap l' = some l) :
    borrowR T10 110 [.agg [l'], .agg (icells v)] m = some (.sref m.heap.length 0 0 1 rows.length (some rows.length), ⟨m.heap ++ [some ⟨0, icells (imgF rows v)⟩], m.loops⟩) := by
  refine borrowR_of (byVals_cons (byMap h0) (byVals_cons (byI _ _) rfl)) ((f110 hl h3 hr hv6 hv).mono ?_)
  rintro y m' ⟨rfl, h⟩
  exact ⟨_, _, one_take h (flat_ints _), one_ren h, rfl⟩
noncomputable def T11 : Env := T10.put 110 (borrowR T10 110)
theorem T11_ok : EnvOk Try.prog T11 := Env.put_ok T10_ok (borrowR_ok T10_ok (callable Try.func110 (by kernel_rfl)))
def imgR (rows : List (List Int)) (v : List Int) : List Int := if VT rows ∧ okB 48 v then imgF rows v else []
def errI (rows : List (List Int)) (v : List Int) : Int := if VT rows ∧ okB 48 v then 0 else 1
theorem new_row {H : Hp} {r : List Int} {n q : Nat} (hn : r.length = n) (h : Zz.look H q 0 = some (icells r)) : Zz.newA H (.sref q 0 0 1 n (some n)) = some (.sval true r.length (icells r)) := by
  subst hn
  have e1 : Zz.cut (icells r) 0 (r.length * 1) = some (icells r) := by
    unfold Zz.cut
    rw [if_pos (by rw [icells_len]; omega), List.drop_zero, List.take_of_length_le (by rw [icells_len]; omega)]
  have e2 : (icells r).all flatAV = true := flat_ints _
  simp only [Zz.newA, Zz.newC, h, e1, e2, if_true, beq_self_eq_true]
theorem x47 {l : AV} {rows : List (List Int)} {v : List Int} (hl : RwL l rows) (hmax : rows.length < 9223372036854775807) (hv6 : v.length = 6) : ∃ x, IntS x (imgR rows v) ∧ ∀ m l', Zz.byC m.heap l' = some l → borrowX T11 47 [.agg [l'], .agg (icells v)] m = some (.tuple [x, .int .i64 (errI rows v)], m) := by
  have hlc := hl.cells
  unfold AV.cells at hlc
  have hmv : (icells v).length = 6 := by rw [icells_len, hv6]
  have hcv := icells_cut hv6
  have c45 := fun m => x45 (m := m) hl hmax (hl.byC _)
  have c61 := fun m => s61 (m := m) hv6
  unfold imgR errI
  by_cases ht : VT rows
  · rw [decide_eq_true ht] at c45
    by_cases hv : okB 48 v
    · rw [decide_eq_true hv] at c61
      have c110 := fun m => r110 (m := m) hl ht.1.2 ht.2.1 hv6 hv (hl.byC _)
      rw [if_pos ⟨ht, hv⟩, if_pos ⟨ht, hv⟩]
      refine ⟨.sval true (imgF rows v).length (icells (imgF rows v)), IntS.mk _ true, fun m l' h0 => borrowX_of (byVals_cons (byMap h0) (byVals_cons (byI _ _) rfl)) ?_⟩
      refine WF.fnE rfl (fn_of Try.func47 cir47) (by show 2 ≤ 18; decide) ?_
      unfold ir47; dsimp only [k0, kI, mV, oO, oG]
      simp only [padTo, List.replicate, List.nil_append, List.append_nil]
      repeat' (first | (refine WO.yes rfl ?_) | (refine WO.opE (by intro; simp (disch := omega) only [go_sem, Zz.look, fillP, Option.bind_eq_bind, ov_one0, Nat.reduceAdd, hcv]; rfl) (by simp only [pt8, pt0, pt1, pt2, pt3, pt4, pt5, pt6, pt7]; rfl) ?_) | (refine WO.specE rfl rfl (c45 _) (by simp only [pt7]; rfl) ?_) | (refine WO.specE rfl rfl (c61 _) (by simp only [pt8, pt3]; rfl) ?_) | (refine WO.specE rfl rfl (c110 _) (by simp only [pt8, pt1]; rfl) ?_) | (refine WC.seq ?_) | (refine WC.region ?_) | (refine WO.nil ?_) | (simp only [fl1]) | (refine WC.no rfl ?_) | (refine WC.skip ?_) | (refine WC.ret ?_))
      exact ⟨_, rfl, newV_two (new_row (img_len _ _) rfl)⟩
    · rw [decide_eq_false hv] at c61
      rw [if_neg (fun h => hv h.2), if_neg (fun h => hv h.2)]
      refine ⟨.snil, IntS.nil, fun m l' h0 => borrowX_of (byVals_cons (byMap h0) (byVals_cons (byI _ _) rfl)) ?_⟩
      refine WF.fnE rfl (fn_of Try.func47 cir47) (by show 2 ≤ 18; decide) ?_
      unfold ir47; dsimp only [k0, kI, mV, oO, oG]
      simp only [padTo, List.replicate, List.nil_append, List.append_nil]
      repeat' (first | (refine WO.yes rfl ?_) | (refine WO.opE (by intro; simp (disch := omega) only [go_sem, Zz.look, hcv]; rfl) (by simp only [pt8, pt0, pt1, pt2, pt3, pt4, pt5, pt6]; rfl) ?_) | (refine WO.specE rfl rfl (c45 _) (by simp only [pt7]; rfl) ?_) | (refine WO.specE rfl rfl (c61 _) (by simp only [pt8, pt3]; rfl) ?_) | (refine WC.seq ?_) | (refine WC.region ?_) | (refine WO.nil ?_) | (simp only [fl1, fl2]) | (refine WC.yes rfl ?_) | (refine WC.ret ?_))
      exact ⟨_, rfl, rfl⟩
  · rw [decide_eq_false ht] at c45
    rw [if_neg (fun h => ht h.1), if_neg (fun h => ht h.1)]
    refine ⟨.snil, IntS.nil, fun m l' h0 => borrowX_of (byVals_cons (byMap h0) (byVals_cons (byI _ _) rfl)) ?_⟩
    refine WF.fnE rfl (fn_of Try.func47 cir47) (by show 2 ≤ 18; decide) ?_
    unfold ir47; dsimp only [k0, kI, mV, oO, oG]
    simp only [padTo, List.replicate, List.nil_append, List.append_nil]
    repeat' (first | (refine WO.noE rfl (by simp only [pt8, pt2, pt3, pt4]; rfl) ?_) | (refine WO.opE (by intro; simp (disch := omega) only [go_sem, Zz.look]; rfl) (by simp only [pt8, pt0, pt1, pt2, pt3, pt4, pt5, pt6]; rfl) ?_) | (refine WO.specE rfl rfl (c45 _) (by simp only [pt7]; rfl) ?_) | (refine WC.seq ?_) | (refine WC.region ?_) | (refine WO.nil ?_) | (simp only [fl1, fl2]) | (refine WC.yes rfl ?_) | (refine WC.ret ?_))
    exact ⟨_, rfl, rfl⟩
noncomputable def T12 : Env := T11.put 47 (borrowX T11 47)
theorem T12_ok : EnvOk Try.prog T12 := Env.put_ok T11_ok (borrowX_ok T11_ok (callable Try.func47 (by kernel_rfl)))
def tempR (rows : List (List Int)) (v : List Int) : Bool := decide ((VT rows ∧ okB 48 v) ∧ ∀ t, t < rows.length → (imgF rows v).getD t 0 = 0)
theorem f50 {l : AV} {rows : List (List Int)} {v : List Int} (hl : RwL l rows) (hmax : rows.length < 9223372036854775807) (hv6 : v.length = 6) : WF T12 (.func 50 [] []) [.agg [l], .agg (icells v)] ⟨[], []⟩ fun y m' => y = .tuple [.bool (tempR rows v), .int .i64 (errI rows v)] := by
  have hlc := hl.cells
  unfold AV.cells at hlc
  have hmv : (icells v).length = 6 := by rw [icells_len, hv6]
  have hcv := icells_cut hv6
  obtain ⟨x, hx, c47⟩ := x47 hl hmax hv6
  have c47 := fun m => c47 m l (hl.byC _)
  by_cases ht : VT rows ∧ okB 48 v
  · have e1 : imgR rows v = imgF rows v := if_pos ht
    have e2 : errI rows v = 0 := if_pos ht
    rw [e1] at hx
    rw [e2] at c47 ⊢
    have hxl := IntS.len hx
    rw [img_len] at hxl
    refine WF.fnE rfl (fn_of Try.func50 cir50) (by show 2 ≤ 28; decide) ?_
    unfold ir50; dsimp only [k0, kI, mV, oO, oG]
    simp only [padTo, List.replicate, List.nil_append, List.append_nil]
    repeat' (first | (refine WO.opE (by intro; simp (disch := omega) only [go_sem, Zz.look, hcv]; rfl) (by simp only [pt8, pt0, pt1, pt2, pt3, pt4, pt5, pt6, pt7]; rfl) ?_) | (refine WO.opE (by intro; exact ev_lenS (by simp only [go_sem]; first | rfl | assumption)) (by simp only [pt8, pt4]; rfl) ?_) | (refine WO.specE rfl rfl (c47 _) (by simp only [pt8, pt5]; rfl) ?_) | (refine WC.seq ?_) | (refine WC.region ?_) | (refine WO.nil ?_) | (simp only [fl1]) | (refine WC.no rfl ?_) | (refine WC.skip ?_) | (refine WC.block ?_))
    refine WC.loopI (fun m s => ∃ T i, s = ⟨T, [some ⟨0, [l]⟩, some ⟨0, icells v⟩], []⟩ ∧ T.length = 28 ∧ gt T 19 = x ∧ gt T 20 = .int .i64 (rows.length : Nat) ∧ gt T 21 = .int .i64 (i : Nat) ∧ m + i = rows.length ∧ ∀ t, t < i → (imgF rows v).getD t 0 = 0) ?_ rows.length _ ⟨_, 0, rfl, rfl, rfl, rfl, rfl, by omega, fun t ht => by omega⟩
    rintro m _ ⟨T, i, rfl, hT, g19, g20, g21, hm, hz⟩
    obtain ⟨f, rfl⟩ := ex28 hT
    clear hT
    replace g19 : f 19 = x := g19
    replace g20 : f 20 = .int .i64 (rows.length : Nat) := g20
    replace g21 : f 21 = .int .i64 (i : Nat) := g21
    simp only [g19, g20, g21]
    by_cases hi : i < rows.length
    · have hat := hx.atI (i := (i : Int)) (by omega) (by rw [img_len]; omega)
      rw [toNat_cast] at hat
      by_cases h0 : (imgF rows v).getD i 0 = 0
      · rw [h0] at hat
        repeat' (first | (refine WO.opE (by intro; simp (disch := omega) only [go_sem, hat]; rfl) (by simp only [pt8, pt0, pt1, pt2, pt3, pt5, pt6, pt7]; rfl) ?_) | (refine WC.seq ?_) | (refine WC.region ?_) | (refine WO.nil ?_) | (simp only [fl1, fl10]) | (refine WC.no rfl ?_) | (refine WC.skip ?_) | (refine WC.block ?_) | (refine WC.em2 rfl (fun hp => ?_) (fun hp => ?_) <;> try (exfalso; first | omega | contradiction)))
        exact ⟨m - 1, by omega, _, i + 1, rfl, rfl, rfl, rfl, rfl, by omega, fun t ht => by
          by_cases e : t = i
          · subst e; exact h0
          · exact hz t (by omega)⟩
      · have hd : tempR rows v = false := decide_eq_false fun h => h0 (h.2 i hi)
        generalize (imgF rows v).getD i 0 = y at *
        repeat' (first | (refine WO.opE (by intro; simp (disch := omega) only [go_sem, hat]; rfl) (by simp only [pt8, pt0, pt1, pt2, pt4, pt5, pt6, pt7]; rfl) ?_) | (refine WC.seq ?_) | (refine WC.region ?_) | (refine WO.nil ?_) | (simp only [fl1, fl2, fl5, fl8]) | (refine WC.skip ?_) | (refine WC.ret ?_) | (refine WC.block ?_) | (refine WC.em2 rfl (fun hp => ?_) (fun hp => ?_) <;> try (exfalso; first | omega | contradiction)))
        exact ⟨_, rfl, by rw [hd]; rfl⟩
    · have hie : i = rows.length := by omega
      subst hie
      have hd : tempR rows v = true := decide_eq_true ⟨ht, hz⟩
      repeat' (first | (refine WO.opE (by intro; simp (disch := omega) only [go_sem]; rfl) (by simp only [pt8, pt4, pt5, pt6]; rfl) ?_) | (refine WC.seq ?_) | (refine WC.region ?_) | (refine WO.nil ?_) | (simp only [fl1]) | (refine WC.exit ?_) | (refine WC.ret ?_) | (refine WC.em2 rfl (fun hp => ?_) (fun hp => ?_) <;> try (exfalso; first | omega | contradiction)))
      exact ⟨_, rfl, by rw [hd]; rfl⟩
  · have e2 : errI rows v = 1 := if_neg ht
    rw [e2] at c47 ⊢
    have hd : tempR rows v = false := decide_eq_false fun h => ht h.1
    refine WF.fnE rfl (fn_of Try.func50 cir50) (by show 2 ≤ 28; decide) ?_
    unfold ir50; dsimp only [k0, kI, mV, oO, oG]
    simp only [padTo, List.replicate, List.nil_append, List.append_nil]
    repeat' (first | (refine WO.opE (by intro; simp (disch := omega) only [go_sem, Zz.look, hcv]; rfl) (by simp only [pt8, pt0, pt1, pt2, pt3, pt4, pt5, pt6, pt7]; rfl) ?_) | (refine WO.specE rfl rfl (c47 _) (by simp only [pt8, pt5]; rfl) ?_) | (refine WC.seq ?_) | (refine WC.region ?_) | (refine WO.nil ?_) | (simp only [fl1, fl2]) | (refine WC.yes rfl ?_) | (refine WC.ret ?_))
    exact ⟨_, rfl, by rw [hd]; rfl⟩
theorem x50 {l l' : AV} {rows : List (List Int)} {v : List Int} (hl : RwL l rows) (hmax : rows.length < 9223372036854775807) (hv6 : v.length = 6) {m : Mem} (h0 : Zz.byC m.heap l' = some l) : borrowX T12 50 [.agg [l'], .agg (icells v)] m = some (.tuple [.bool (tempR rows v), .int .i64 (errI rows v)], m) :=
  borrowX_of (byVals_cons (byMap h0) (byVals_cons (byI _ _) rfl)) ((f50 hl hmax hv6).mono fun y m' h => by rw [h]; rfl)
noncomputable def T13 : Env := T12.put 50 (borrowX T12 50)
theorem T13_ok : EnvOk Try.prog T13 := Env.put_ok T12_ok (borrowX_ok T12_ok (callable Try.func50 (by kernel_rfl)))
end Go.Proofs.Ytnilimjkibimcaa

