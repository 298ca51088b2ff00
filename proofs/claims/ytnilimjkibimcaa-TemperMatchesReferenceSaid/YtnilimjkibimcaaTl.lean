import Derived.Test.YtnilimjkibimcaaTh
import Derived.Test.YtnilimjkibimcaaIrV
import Derived.Test.YtnilimjkibimcaaPA
import Derived.Test.YtnilimjkibimcaaPm

set_option linter.unusedSimpArgs false
set_option linter.unusedVariables false

namespace Go.Proofs.Ytnilimjkibimcaa
open Go.Zz
set_option maxRecDepth 100000
set_option maxHeartbeats 8000000
noncomputable def U1 : Env := T23.put 26 (borrowX E2 26)
theorem U1_ok : EnvOk Try.prog U1 := Env.put_ok T23_ok (borrowX_ok E2_ok (callable Try.func26 (by kernel_rfl)))
noncomputable def U2 : Env := U1.put 31 (borrowR E21 31)
theorem U2_ok : EnvOk Try.prog U2 := Env.put_ok U1_ok (borrowR_ok E21_ok (callable Try.func31 (by kernel_rfl)))
noncomputable def U3 : Env := U2.put 36 (borrowX E12 36)
theorem U3_ok : EnvOk Try.prog U3 := Env.put_ok U2_ok (borrowX_ok E12_ok (callable Try.func36 (by kernel_rfl)))
theorem w31 {l : AV} {rows : List (List Int)} (hl : RwL l rows) (hmax : rows.length < 9223372036854775807) : WF E21 (.func 31 [] []) [l] ⟨[], []⟩ fun y m' => ∃ v q, y = .tuple [v, .int .i64 (errC rows)] ∧ GS 6 m'.heap v q (flatR (kernR rows)) := by
 have h6 : ∀ i, i < rows.length → (rw_ rows i).length = 6 := fun i hi => hl.six hi
 by_cases hv : VM rows
 ·unfold kernR errC
  rw [if_pos hv, if_pos hv, kerF_eq hv h6]
  exact f31 hl hv
 ·unfold kernR errC
  rw [if_neg hv, if_neg hv]
  have c26 := fun m => s26 (m := m) hl hmax
  rw [decide_eq_false hv] at c26
  have hlc := hl.cells
  unfold AV.cells at hlc
  refine WF.fnE rfl (fn_of Try.func31 cir31) (by show 1 ≤ 149; decide) ?_
  unfold ir31; dsimp only [k0, kI, mV, oO, oG]
  simp only [padTo, List.replicate, List.nil_append, List.append_nil]
  repeat' (first | (refine WO.opE (by intro; simp (disch := omega) only [go_sem]; rfl) (by simp only [pt8, pt2, pt3, pt4, pt6, pt7]; rfl) ?_) | (refine WO.specE rfl rfl (c26 _) (by simp only [pt8, pt5]; rfl) ?_) | (refine WC.seq ?_) | (refine WC.region ?_) | (refine WO.nil ?_) | (simp only [fl1, fl2]) | (refine WC.yes rfl ?_) | (refine WC.ret ?_))
  exact ⟨_, rfl, .snil, 0, rfl, .inl ⟨rfl, rfl⟩⟩
theorem r31 {l : AV} {rows : List (List Int)} (hl : RwL l rows) (hmax : rows.length < 9223372036854775807) : ∃ x, RwL x (kernR rows) ∧ ∀ (B : Hp) (L : List (Option ALoop)), ∃ new v', (∀ l', Zz.byVal B l' = some l → borrowR E21 31 [l'] ⟨B, L⟩ = some (.tuple [v', .int .i64 (errC rows)], ⟨B ++ new, L⟩)) ∧ GS 6 (B ++ new) v' B.length (flatR (kernR rows)) ∧ Zz.resC (B ++ new) v' = some x := by
 obtain ⟨n, y, m', h1, v, q, rfl, h2⟩ := (w31 hl hmax).ex
 obtain ⟨x, hx, hrx⟩ := GS.rows h2 kernR_six
 refine ⟨x, hx, fun B L => ?_⟩
 obtain ⟨new, v', a1, a2, a3, a4⟩ := gs_take h2 (flatR_flat _) (errC rows) B
 exact ⟨new, v', fun l' h0 => borrowR_of (m := ⟨B, L⟩) (byVals_cons h0 rfl) ⟨⟨n, _, m', h1, new, _, a1, a2, rfl⟩⟩, a3, a4.trans hrx⟩
theorem f111 {r : List Int} (h6 : r.length = 6) : WF U3 (.func 111 [] []) [.agg (icells r)] ⟨[], []⟩ fun y m' => y = .bool (decide (okB 48 r)) := by
 have hml : (icells r).length = 6 := by rw [icells_len, h6]
 refine WF.fnE rfl (fn_of Try.func111 cir111) (by show 1 ≤ 18; decide) ?_
 unfold ir111; dsimp only [k0, kI, mV, oO, oG]
 simp only [padTo, List.replicate, List.nil_append, List.append_nil]
 repeat' (first | (refine WO.opE (by intro; simp (disch := omega) only [go_sem]; rfl) (by simp only [pt1, pt2, pt3]; rfl) ?_) | (refine WC.seq ?_) | (refine WC.region ?_) | (refine WO.nil ?_) | (simp only [fl1]) | (refine WC.block ?_))
 refine WC.loopI (fun m s => ∃ T j, s = ⟨T, [some ⟨0, icells r⟩], []⟩ ∧ T.length = 18 ∧ gt T 1 = .pref 0 0 0 ∧ gt T 3 = .int .i64 (j : Nat) ∧ m + j = 6 ∧ ∀ t, t < j → -48 ≤ r.getD t 0 ∧ r.getD t 0 ≤ 48) ?_ 6 _ ⟨_, 0, rfl, rfl, rfl, rfl, by omega, fun t ht => by omega⟩
 rintro m _ ⟨T, j, rfl, hT, g1, g3, hm, hz⟩
 obtain ⟨f, rfl⟩ := ex18 hT
 clear hT
 replace g1 : f 1 = .pref 0 0 0 := g1
 replace g3 : f 3 = .int .i64 (j : Nat) := g3
 simp only [g1, g3]
 by_cases hj : j < 6
 ·have hia := icells_at (r := r) (j := j) (by omega)
  generalize hx : r.getD j 0 = x at *
  by_cases hxb : -48 ≤ x ∧ x ≤ 48
  ·have hxb1 := hxb
   repeat' (first | (refine WO.yes rfl ?_) | (refine WO.opE (by intro; simp (disch := omega) only [go_sem, Zz.look, Int.reduceNeg, Int.reduceAdd, hia, Nat.mul_one, Nat.zero_add]; rfl) (by simp only [pt8, pt0, pt1, pt2, pt3, pt4, pt5, pt6, pt7]; rfl) ?_) | (refine WC.seq ?_) | (refine WC.region ?_) | (refine WO.nil ?_) | (simp only [fl1, fl10]) | (refine WC.skip ?_) | (refine WC.block ?_) | (refine WO.em2 rfl (by intro hp; simp only [hp, decide_true]; rfl) (by intro hp; simp only [hp, decide_false]; rfl) (fun hp => ?_) (fun hp => ?_) <;> try (exfalso; first | omega | contradiction)) | (refine WC.em2 rfl (fun hp => ?_) (fun hp => ?_) <;> try (exfalso; first | omega | contradiction)))
   exact ⟨m - 1, by omega, _, j + 1, rfl, rfl, rfl, rfl, by omega, fun t ht => by
    by_cases e : t = j
    ·subst e; rw [hx]; exact hxb
    ·exact hz t (by omega)⟩
  ·have hxb1 := hxb
   have hd : decide (okB 48 r) = false := decide_eq_false fun h => hxb (by have := h j hj; rw [hx] at this; exact this)
   repeat' (first | (refine WO.yes rfl ?_) | (refine WO.noE rfl (by simp only [pt8, pt0, pt5, pt6, pt7]; rfl) ?_) | (refine WO.opE (by intro; simp (disch := omega) only [go_sem, Zz.look, Int.reduceNeg, Int.reduceAdd, hia, Nat.mul_one, Nat.zero_add]; rfl) (by simp only [pt8, pt0, pt1, pt2, pt3, pt4, pt5, pt6, pt7]; rfl) ?_) | (refine WC.seq ?_) | (refine WC.region ?_) | (refine WO.nil ?_) | (simp only [fl1, fl2, fl5, fl8]) | (refine WC.yes rfl ?_) | (refine WC.skip ?_) | (refine WC.ret ?_) | (refine WC.block ?_) | (refine WO.em2 rfl (by intro hp; simp only [hp, decide_true]; rfl) (by intro hp; simp only [hp, decide_false]; rfl) (fun hp => ?_) (fun hp => ?_) <;> try (exfalso; first | omega | contradiction)) | (refine WC.em2 rfl (fun hp => ?_) (fun hp => ?_) <;> try (exfalso; first | omega | contradiction)))
   all_goals exact ⟨_, rfl, by rw [hd]; rfl⟩
 ·have hje : j = 6 := by omega
  subst hje
  have hd : decide (okB 48 r) = true := decide_eq_true hz
  repeat' (first | (refine WO.opE (by intro; simp (disch := omega) only [go_sem]; rfl) (by simp only [pt2, pt4, pt5]; rfl) ?_) | (refine WC.seq ?_) | (refine WC.region ?_) | (refine WO.nil ?_) | (simp only [fl1]) | (refine WC.no rfl ?_) | (refine WC.exit ?_) | (refine WC.ret ?_))
  exact ⟨_, rfl, by rw [hd]; rfl⟩
theorem s111 {r : List Int} (h6 : r.length = 6) {m : Mem} : borrowE U3 111 [.agg (icells r)] m = some (.bool (decide (okB 48 r)), m) :=
 borrowE_of (pures_cons (pureI r) rfl) ((f111 h6).mono fun y m' h => by rw [h]; rfl)
theorem f115 {r : List Int} (h6 : r.length = 6) : WF U3 (.func 115 [] []) [.agg (icells r)] ⟨[], []⟩ fun y m' => y = .bool (decide (okB 576 r)) := by
 have hml : (icells r).length = 6 := by rw [icells_len, h6]
 refine WF.fnE rfl (fn_of Try.func115 cir115) (by show 1 ≤ 18; decide) ?_
 unfold ir115; dsimp only [k0, kI, mV, oO, oG]
 simp only [padTo, List.replicate, List.nil_append, List.append_nil]
 repeat' (first | (refine WO.opE (by intro; simp (disch := omega) only [go_sem]; rfl) (by simp only [pt1, pt2, pt3]; rfl) ?_) | (refine WC.seq ?_) | (refine WC.region ?_) | (refine WO.nil ?_) | (simp only [fl1]) | (refine WC.block ?_))
 refine WC.loopI (fun m s => ∃ T j, s = ⟨T, [some ⟨0, icells r⟩], []⟩ ∧ T.length = 18 ∧ gt T 1 = .pref 0 0 0 ∧ gt T 3 = .int .i64 (j : Nat) ∧ m + j = 6 ∧ ∀ t, t < j → -576 ≤ r.getD t 0 ∧ r.getD t 0 ≤ 576) ?_ 6 _ ⟨_, 0, rfl, rfl, rfl, rfl, by omega, fun t ht => by omega⟩
 rintro m _ ⟨T, j, rfl, hT, g1, g3, hm, hz⟩
 obtain ⟨f, rfl⟩ := ex18 hT
 clear hT
 replace g1 : f 1 = .pref 0 0 0 := g1
 replace g3 : f 3 = .int .i64 (j : Nat) := g3
 simp only [g1, g3]
 by_cases hj : j < 6
 ·have hia := icells_at (r := r) (j := j) (by omega)
  generalize hx : r.getD j 0 = x at *
  by_cases hxb : -576 ≤ x ∧ x ≤ 576
  ·have hxb1 := hxb
   repeat' (first | (refine WO.yes rfl ?_) | (refine WO.opE (by intro; simp (disch := omega) only [go_sem, Zz.look, Int.reduceNeg, Int.reduceAdd, hia, Nat.mul_one, Nat.zero_add]; rfl) (by simp only [pt8, pt0, pt1, pt2, pt3, pt4, pt5, pt6, pt7]; rfl) ?_) | (refine WC.seq ?_) | (refine WC.region ?_) | (refine WO.nil ?_) | (simp only [fl1, fl10]) | (refine WC.skip ?_) | (refine WC.block ?_) | (refine WO.em2 rfl (by intro hp; simp only [hp, decide_true]; rfl) (by intro hp; simp only [hp, decide_false]; rfl) (fun hp => ?_) (fun hp => ?_) <;> try (exfalso; first | omega | contradiction)) | (refine WC.em2 rfl (fun hp => ?_) (fun hp => ?_) <;> try (exfalso; first | omega | contradiction)))
   exact ⟨m - 1, by omega, _, j + 1, rfl, rfl, rfl, rfl, by omega, fun t ht => by
    by_cases e : t = j
    ·subst e; rw [hx]; exact hxb
    ·exact hz t (by omega)⟩
  ·have hxb1 := hxb
   have hd : decide (okB 576 r) = false := decide_eq_false fun h => hxb (by have := h j hj; rw [hx] at this; exact this)
   repeat' (first | (refine WO.yes rfl ?_) | (refine WO.noE rfl (by simp only [pt8, pt0, pt5, pt6, pt7]; rfl) ?_) | (refine WO.opE (by intro; simp (disch := omega) only [go_sem, Zz.look, Int.reduceNeg, Int.reduceAdd, hia, Nat.mul_one, Nat.zero_add]; rfl) (by simp only [pt8, pt0, pt1, pt2, pt3, pt4, pt5, pt6, pt7]; rfl) ?_) | (refine WC.seq ?_) | (refine WC.region ?_) | (refine WO.nil ?_) | (simp only [fl1, fl2, fl5, fl8]) | (refine WC.yes rfl ?_) | (refine WC.skip ?_) | (refine WC.ret ?_) | (refine WC.block ?_) | (refine WO.em2 rfl (by intro hp; simp only [hp, decide_true]; rfl) (by intro hp; simp only [hp, decide_false]; rfl) (fun hp => ?_) (fun hp => ?_) <;> try (exfalso; first | omega | contradiction)) | (refine WC.em2 rfl (fun hp => ?_) (fun hp => ?_) <;> try (exfalso; first | omega | contradiction)))
   all_goals exact ⟨_, rfl, by rw [hd]; rfl⟩
 ·have hje : j = 6 := by omega
  subst hje
  have hd : decide (okB 576 r) = true := decide_eq_true hz
  repeat' (first | (refine WO.opE (by intro; simp (disch := omega) only [go_sem]; rfl) (by simp only [pt2, pt4, pt5]; rfl) ?_) | (refine WC.seq ?_) | (refine WC.region ?_) | (refine WO.nil ?_) | (simp only [fl1]) | (refine WC.no rfl ?_) | (refine WC.exit ?_) | (refine WC.ret ?_))
  exact ⟨_, rfl, by rw [hd]; rfl⟩
theorem s115 {r : List Int} (h6 : r.length = 6) {m : Mem} : borrowE U3 115 [.agg (icells r)] m = some (.bool (decide (okB 576 r)), m) :=
 borrowE_of (pures_cons (pureI r) rfl) ((f115 h6).mono fun y m' h => by rw [h]; rfl)
noncomputable def U4 : Env := U3.put 111 (borrowE U3 111)
theorem U4_ok : EnvOk Try.prog U4 := Env.put_ok U3_ok (borrowE_ok U3_ok (callable Try.func111 (by kernel_rfl)))
noncomputable def U5 : Env := U4.put 115 (borrowE U3 115)
theorem U5_ok : EnvOk Try.prog U5 := Env.put_ok U4_ok (borrowE_ok U3_ok (callable Try.func115 (by kernel_rfl)))
theorem f112 {a b : List Int} {A B : Int} (ha6 : a.length = 6) (hb6 : b.length = 6) (ha : okB A a) (hb : okB B b) (hAB : 0 ≤ A * B ∧ A * B ≤ 1000000000000000000) : WF U5 (.func 112 [] []) [.agg (icells a), .agg (icells b)] ⟨[], []⟩ fun y m' => y = .int .i64 (dotF a b) := by
 have hma : (icells a).length = 6 := by rw [icells_len, ha6]
 have hmb : (icells b).length = 6 := by rw [icells_len, hb6]
 refine WF.fnE rfl (fn_of Try.func112 cir112) (by show 2 ≤ 21; decide) ?_
 unfold ir112; dsimp only [k0, kI, mV, oO, oG]
 simp only [padTo, List.replicate, List.nil_append, List.append_nil]
 repeat' (first | (refine WO.opE (by intro; simp (disch := omega) only [go_sem, List.cons_append, List.nil_append]; rfl) (by simp only [pt2, pt3, pt4, pt5, pt6]; rfl) ?_) | (refine WC.seq ?_) | (refine WC.region ?_) | (refine WO.nil ?_) | (simp only [fl1]) | (refine WC.block ?_))
 refine WC.loopI (fun m s => ∃ T j, s = ⟨T, [some ⟨0, icells a⟩, some ⟨0, icells b⟩], []⟩ ∧ T.length = 21 ∧ gt T 2 = .pref 0 0 0 ∧ gt T 3 = .pref 1 0 0 ∧ gt T 5 = .int .i64 (dotN a b j) ∧ gt T 6 = .int .i64 (j : Nat) ∧ m + j = 6) ?_ 6 _ ⟨_, 0, rfl, rfl, rfl, rfl, rfl, rfl, by omega⟩
 rintro m _ ⟨T, j, rfl, hT, g2, g3, g5, g6, hm⟩
 obtain ⟨f, rfl⟩ := ex21 hT
 clear hT
 replace g2 : f 2 = .pref 0 0 0 := g2
 replace g3 : f 3 = .pref 1 0 0 := g3
 replace g5 : f 5 = .int .i64 (dotN a b j) := g5
 replace g6 : f 6 = .int .i64 (j : Nat) := g6
 simp only [g2, g3, g5, g6]
 by_cases hj : j < 6
 ·have hia := icells_at (r := a) (j := j) (by omega)
  have hib := icells_at (r := b) (j := j) (by omega)
  have b1 := dot_bd ha hb j (by omega)
  have b2 := dot_bd ha hb (j + 1) (by omega)
  have b3 := mul_bb (ha j hj) (hb j hj)
  have b4 : (j : Int) * (A * B) ≤ 6 * (A * B) := Int.mul_le_mul_of_nonneg_right (by omega) hAB.1
  have b5 : ((j + 1 : Nat) : Int) * (A * B) ≤ 6 * (A * B) := Int.mul_le_mul_of_nonneg_right (by omega) hAB.1
  have hd : dotN a b (j + 1) = dotN a b j + a.getD j 0 * b.getD j 0 := rfl
  generalize ((j + 1 : Nat) : Int) * (A * B) = P2 at *
  generalize (j : Int) * (A * B) = P1 at *
  generalize A * B = P at *
  repeat' (first | (refine WO.opE (by intro; simp (disch := omega) only [go_sem, Zz.look, hia, hib, ← hd, Nat.mul_one, Nat.zero_add]; rfl) (by simp only [pt8, pt0, pt1, pt2, pt3, pt4, pt5, pt6, pt7]; rfl) ?_) | (refine WC.seq ?_) | (refine WC.region ?_) | (refine WO.nil ?_) | (simp only [fl1, fl10]) | (refine WC.calm rfl ?_) | (refine WC.skip ?_) | (refine WC.block ?_) | (refine WC.em2 rfl (fun hp => ?_) (fun hp => ?_) <;> try (exfalso; first | omega | contradiction)))
  exact ⟨m - 1, by omega, _, j + 1, rfl, rfl, rfl, rfl, rfl, rfl, by omega⟩
 ·have hje : j = 6 := by omega
  subst hje
  repeat' (first | (refine WO.opE (by intro; simp (disch := omega) only [go_sem]; rfl) (by simp only [pt8, pt0, pt4, pt7]; rfl) ?_) | (refine WC.seq ?_) | (refine WC.region ?_) | (refine WO.nil ?_) | (simp only [fl1]) | (refine WC.no rfl ?_) | (refine WC.exit ?_) | (refine WC.ret ?_))
  exact ⟨_, rfl, rfl⟩
theorem s112 {a b : List Int} {A B : Int} (ha6 : a.length = 6) (hb6 : b.length = 6) (ha : okB A a) (hb : okB B b) (hAB : 0 ≤ A * B ∧ A * B ≤ 1000000000000000000) {m : Mem} : borrowE U5 112 [.agg (icells a), .agg (icells b)] m = some (.int .i64 (dotF a b), m) :=
 borrowE_of (pures_cons (pureI a) (pures_cons (pureI b) rfl)) ((f112 ha6 hb6 ha hb hAB).mono fun y m' h => by rw [h]; rfl)
noncomputable def U6 : Env := U5.put 112 (borrowE U5 112)
theorem U6_ok : EnvOk Try.prog U6 := Env.put_ok U5_ok (borrowE_ok U5_ok (callable Try.func112 (by kernel_rfl)))
theorem f46 {l : AV} {rows : List (List Int)} (hl : RwL l rows) (hmax : rows.length < 9223372036854775807) : WF U6 (.func 46 [] []) [.agg [l]] ⟨[], []⟩ fun y m' => y = .bool (decide (VT rows)) := by
 have hll := hl.len
 have hlc := hl.cells
 unfold AV.cells at hlc
 have c26 := fun m => x26 (m := m) (l' := l) hl hmax (hl.byVal _)
 have c36 := fun m => x36 (m := m) (l' := l) hl hmax (hl.byVal _)
 by_cases h3 : 1 ≤ rows.length ∧ rows.length ≤ 3
 ·have h31 := h3
  by_cases hv : VM rows
  ·rw [decide_eq_true hv] at c26
   rw [if_pos hv, if_pos hv] at c36
   refine WF.fnE rfl (fn_of Try.func46 cir46) (by show 1 ≤ 67; decide) ?_
   unfold ir46; dsimp only [k0, kI, mV, oO, oG]
   simp only [padTo, List.replicate, List.nil_append, List.append_nil]
   repeat' (first | (refine WO.yes rfl ?_) | (refine WO.opE (by intro; simp (disch := omega) only [go_sem, Zz.look]; rfl) (by simp only [pt8, pt0, pt1, pt2, pt3, pt4, pt5, pt6, pt7]; rfl) ?_) | (refine WO.opE (by intro; exact ev_lenS (by simp only [go_sem]; first | rfl | assumption)) (by simp only [pt8, pt1, pt6]; rfl) ?_) | (refine WO.specE rfl rfl (c26 _) (by simp only [pt8, pt4]; rfl) ?_) | (refine WC.seq ?_) | (refine WC.region ?_) | (refine WO.nil ?_) | (simp only [fl1]) | (refine WC.no rfl ?_) | (refine WC.skip ?_) | (refine WC.block ?_) | (refine WO.em2 rfl (by intro hp; simp only [hp, decide_true]; rfl) (by intro hp; simp only [hp, decide_false]; rfl) (fun hp => ?_) (fun hp => ?_) <;> try (exfalso; first | omega | contradiction)))
   refine WC.loopI (fun m s => ∃ T i, s = ⟨T, [some ⟨0, [l]⟩], []⟩ ∧ T.length = 67 ∧ gt T 1 = .pref 0 0 0 ∧ gt T 3 = .int .i64 (i : Nat) ∧ m + i = rows.length ∧ ∀ t, t < i → okB 400 (rw_ rows t)) ?_ rows.length _ ⟨_, 0, rfl, rfl, rfl, rfl, by omega, fun t ht => by omega⟩
   rintro m _ ⟨T, i, rfl, hT, g1, g3, hm, hz⟩
   obtain ⟨f, rfl⟩ := ex67 hT
   clear hT
   replace g1 : f 1 = .pref 0 0 0 := g1
   replace g3 : f 3 = .int .i64 (i : Nat) := g3
   simp only [g1, g3]
   by_cases hi : i < rows.length
   ·have h6 := hl.six hi
    have hat := hl.at hi
    have hcr : (rw_ rows i).map (AV.int .i64) = icells (rw_ rows i) := rfl
    rw [hcr] at hat
    repeat' (first | (refine WO.opE (by intro; simp (disch := omega) only [go_sem, Zz.look]; rfl) (by simp only [pt8, pt0, pt1, pt3, pt4, pt7]; rfl) ?_) | (refine WO.opE (by intro; exact ev_lenS (by simp only [go_sem]; first | rfl | assumption)) (by simp only [pt8, pt2]; rfl) ?_) | (refine WC.seq ?_) | (refine WC.region ?_) | (refine WO.nil ?_) | (simp only [fl1]) | (refine WC.skip ?_) | (refine WC.block ?_) | (refine WC.em2 rfl (fun hp => ?_) (fun hp => ?_) <;> try (exfalso; first | omega | contradiction)))
    refine WC.loopI (fun m2 s => ∃ T j, s = ⟨T, [some ⟨0, [l]⟩], []⟩ ∧ T.length = 67 ∧ gt T 1 = .pref 0 0 0 ∧ gt T 3 = .int .i64 (i : Nat) ∧ gt T 4 = .int .i64 (j : Nat) ∧ m2 + j = 6 ∧ ∀ t, t < j → -400 ≤ (rw_ rows i).getD t 0 ∧ (rw_ rows i).getD t 0 ≤ 400) ?_ 6 _ ⟨_, 0, rfl, rfl, rfl, rfl, rfl, by omega, fun t ht => by omega⟩
    clear g1 g3 f
    rintro m2 _ ⟨T, j, rfl, hT, g1, g3, g4, hm2, hz2⟩
    obtain ⟨f, rfl⟩ := ex67 hT
    clear hT
    replace g1 : f 1 = .pref 0 0 0 := g1
    replace g3 : f 3 = .int .i64 (i : Nat) := g3
    replace g4 : f 4 = .int .i64 (j : Nat) := g4
    simp only [g1, g3, g4]
    by_cases hj : j < 6
    ·have hdr := dr_row (t := tailr rows i) (r := rw_ rows i) (j := j) (by omega)
     rw [hcr] at hdr
     generalize hx : (rw_ rows i).getD j 0 = x at *
     by_cases hxb : -400 ≤ x ∧ x ≤ 400
     ·have hxb1 := hxb
      repeat' (first | (refine WO.yes rfl ?_) | (refine WO.opE (by intro; simp (disch := omega) only [go_sem, Zz.look, Int.reduceNeg, Int.reduceAdd, hat, hdr, Nat.mul_one]; rfl) (by simp only [pt8, pt0, pt1, pt2, pt3, pt4, pt5, pt6, pt7]; rfl) ?_) | (refine WC.seq ?_) | (refine WC.region ?_) | (refine WO.nil ?_) | (simp only [fl1, fl10]) | (refine WC.skip ?_) | (refine WC.block ?_) | (refine WO.em2 rfl (by intro hp; simp only [hp, decide_true]; rfl) (by intro hp; simp only [hp, decide_false]; rfl) (fun hp => ?_) (fun hp => ?_) <;> try (exfalso; first | omega | contradiction)) | (refine WC.em2 rfl (fun hp => ?_) (fun hp => ?_) <;> try (exfalso; first | omega | contradiction)))
      exact ⟨m2 - 1, by omega, _, j + 1, rfl, rfl, rfl, rfl, rfl, by omega, fun t ht => by
       by_cases e : t = j
       ·subst e; rw [hx]; exact hxb
       ·exact hz2 t (by omega)⟩
     ·have hxb1 := hxb
      have hd : decide (VT rows) = false := decide_eq_false fun h => hxb (by have := h.2.1 i hi j hj; rw [hx] at this; exact this)
      repeat' (first | (refine WO.yes rfl ?_) | (refine WO.noE rfl (by simp only [pt8, pt0, pt1, pt2, pt3, pt4, pt5, pt6, pt7]; rfl) ?_) | (refine WO.opE (by intro; simp (disch := omega) only [go_sem, Zz.look, Int.reduceNeg, Int.reduceAdd, hat, hdr, Nat.mul_one]; rfl) (by simp only [pt8, pt0, pt1, pt2, pt3, pt4, pt5, pt6, pt7]; rfl) ?_) | (refine WC.seq ?_) | (refine WC.region ?_) | (refine WO.nil ?_) | (simp only [fl1, fl2, fl5, fl8]) | (refine WC.yes rfl ?_) | (refine WC.skip ?_) | (refine WC.ret ?_) | (refine WC.block ?_) | (refine WO.em2 rfl (by intro hp; simp only [hp, decide_true]; rfl) (by intro hp; simp only [hp, decide_false]; rfl) (fun hp => ?_) (fun hp => ?_) <;> try (exfalso; first | omega | contradiction)) | (refine WC.em2 rfl (fun hp => ?_) (fun hp => ?_) <;> try (exfalso; first | omega | contradiction)))
      all_goals exact ⟨_, rfl, by rw [hd]; rfl⟩
    ·have hje : j = 6 := by omega
     subst hje
     repeat' (first | (refine WO.opE (by intro; simp (disch := omega) only [go_sem]; rfl) (by simp only [pt8, pt3, pt4, pt5, pt6, pt7]; rfl) ?_) | (refine WC.seq ?_) | (refine WC.region ?_) | (refine WO.nil ?_) | (simp only [fl1, fl10]) | (refine WC.no rfl ?_) | (refine WC.exit ?_))
     exact ⟨m - 1, by omega, _, i + 1, rfl, rfl, rfl, rfl, by omega, fun t ht => by
      by_cases e : t = i
      ·subst e; exact hz2
      ·exact hz t (by omega)⟩
   ·have hie : i = rows.length := by omega
    subst hie
    have hvt : VT rows ↔ rankF rows = rows.length := ⟨fun h => h.2.2.2, fun h => ⟨h3, hz, hv, h⟩⟩
    repeat' (first | (refine WO.yes rfl ?_) | (refine WO.opE (by intro; simp (disch := omega) only [go_sem, Zz.look]; rfl) (by simp only [pt8, pt0, pt1, pt2, pt3, pt4, pt5, pt6, pt7]; rfl) ?_) | (refine WO.opE (by intro; exact ev_lenS (by simp only [go_sem]; first | rfl | assumption)) (by simp only [pt8, pt0, pt2]; rfl) ?_) | (refine WO.specE rfl rfl (c36 _) (by simp only [pt8, pt7]; rfl) ?_) | (refine WC.seq ?_) | (refine WC.region ?_) | (refine WO.nil ?_) | (simp only [fl1]) | (refine WC.exit ?_) | (refine WC.ret ?_) | (refine WC.em2 rfl (fun hp => ?_) (fun hp => ?_) <;> try (exfalso; first | omega | contradiction)))
    refine ⟨_, rfl, ?_⟩
    simp only [oneRes, gt2, AV.bool.injEq]
    rw [decide_eq_decide, hvt]
    omega
  ·rw [decide_eq_false hv] at c26
   have hd : decide (VT rows) = false := decide_eq_false fun h => hv h.2.2.1
   refine WF.fnE rfl (fn_of Try.func46 cir46) (by show 1 ≤ 67; decide) ?_
   unfold ir46; dsimp only [k0, kI, mV, oO, oG]
   simp only [padTo, List.replicate, List.nil_append, List.append_nil]
   repeat' (first | (refine WO.yes rfl ?_) | (refine WO.opE (by intro; simp (disch := omega) only [go_sem, Zz.look]; rfl) (by simp only [pt8, pt0, pt1, pt2, pt3, pt4, pt5, pt6, pt7]; rfl) ?_) | (refine WO.opE (by intro; exact ev_lenS (by simp only [go_sem]; first | rfl | assumption)) (by simp only [pt8, pt1, pt6]; rfl) ?_) | (refine WO.specE rfl rfl (c26 _) (by simp only [pt8, pt4]; rfl) ?_) | (refine WC.seq ?_) | (refine WC.region ?_) | (refine WO.nil ?_) | (simp only [fl1, fl2]) | (refine WC.yes rfl ?_) | (refine WC.ret ?_) | (refine WO.em2 rfl (by intro hp; simp only [hp, decide_true]; rfl) (by intro hp; simp only [hp, decide_false]; rfl) (fun hp => ?_) (fun hp => ?_) <;> try (exfalso; first | omega | contradiction)))
   exact ⟨_, rfl, by rw [hd]; rfl⟩
 ·have h31 := h3
  have hd : decide (VT rows) = false := decide_eq_false fun h => h3 h.1
  refine WF.fnE rfl (fn_of Try.func46 cir46) (by show 1 ≤ 67; decide) ?_
  unfold ir46; dsimp only [k0, kI, mV, oO, oG]
  simp only [padTo, List.replicate, List.nil_append, List.append_nil]
  repeat' (first | (refine WO.yes rfl ?_) | (refine WO.noE rfl (by simp only [pt8, pt2, pt3, pt4, pt5, pt6, pt7]; rfl) ?_) | (refine WO.opE (by intro; simp (disch := omega) only [go_sem, Zz.look]; rfl) (by simp only [pt8, pt0, pt1, pt2, pt3, pt4, pt5, pt6, pt7]; rfl) ?_) | (refine WO.opE (by intro; exact ev_lenS (by simp only [go_sem]; first | rfl | assumption)) (by simp only [pt8, pt1, pt6]; rfl) ?_) | (refine WC.seq ?_) | (refine WC.region ?_) | (refine WO.nil ?_) | (simp only [fl1, fl2]) | (refine WC.yes rfl ?_) | (refine WC.ret ?_) | (refine WO.em2 rfl (by intro hp; simp only [hp, decide_true]; rfl) (by intro hp; simp only [hp, decide_false]; rfl) (fun hp => ?_) (fun hp => ?_) <;> try (exfalso; first | omega | contradiction)))
  all_goals exact ⟨_, rfl, by rw [hd]; rfl⟩
theorem x46 {l l' : AV} {rows : List (List Int)} (hl : RwL l rows) (hmax : rows.length < 9223372036854775807) {m : Mem} (h0 : Zz.byC m.heap l' = some l) : borrowX U6 46 [.agg [l']] m = some (.bool (decide (VT rows)), m) :=
 borrowX_of (byVals_cons (byMap h0) rfl) ((f46 hl hmax).mono fun y m' h => by rw [h]; rfl)
noncomputable def U7 : Env := U6.put 46 (borrowX U6 46)
theorem U7_ok : EnvOk Try.prog U7 := Env.put_ok U6_ok (borrowX_ok U6_ok (callable Try.func46 (by kernel_rfl)))
end Go.Proofs.Ytnilimjkibimcaa

