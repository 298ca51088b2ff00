import Derived.Test.YtnilimjkibimcaaAbsI
import Derived.Test.YtnilimjkibimcaaPb
import Derived.Test.YtnilimjkibimcaaQa
import Derived.Test.YtnilimjkibimcaaPm

set_option linter.unusedSimpArgs false
set_option linter.unusedVariables false
namespace Go.Proofs.Ytnilimjkibimcaa
open Go.Zz
set_option maxRecDepth 100000
set_option maxHeartbeats 8000000
theorem pa_u8 {x : AV} (h : PA (false, [.flat (.int .u8)]) x) : ∃ k : Nat, x = .int .u8 (k : Int) ∧ k < 256 := by
  obtain ⟨n, rfl, hw⟩ := pa_one h
  have e1 : IntKind.u8.min = 0 := by decide
  have e2 : IntKind.u8.max = 255 := by decide
  have h2 : IntKind.u8.min ≤ n ∧ n ≤ IntKind.u8.max := by simpa [Lit.wf] using hw
  exact ⟨n.toNat, by rw [show ((n.toNat : Nat) : Int) = n by omega], by omega⟩
theorem pa_i16 {x : AV} (h : PA (false, [.flat (.int .i16)]) x) : ∃ n : Int, x = .int .i16 n ∧ -32768 ≤ n ∧ n ≤ 32767 := by
  obtain ⟨n, rfl, hw⟩ := pa_one h
  have e1 : IntKind.i16.min = -32768 := by decide
  have e2 : IntKind.i16.max = 32767 := by decide
  have h2 : IntKind.i16.min ≤ n ∧ n ≤ IntKind.i16.max := by simpa [Lit.wf] using hw
  exact ⟨n, rfl, by omega, by omega⟩
theorem GS.resV {sz : Nat} {H : Hp} {v : AV} {q : Nat} {c : List AV} (h : GS sz H v q c) : Zz.resV H v = Zz.resC H v := by
  rcases h with ⟨rfl, _⟩ | ⟨g, rfl, _⟩ | ⟨g, n, rfl, _⟩ <;> rfl
theorem RwL.sixR {x : AV} {rows : List (List Int)} (h : RwL x rows) : SixR rows := fun r hr => by
  obtain ⟨i, hi, rfl⟩ := List.mem_iff_getElem.1 hr
  rw [← rw_lt hi]
  exact h.six hi
theorem s41 {l : AV} {rows : List (List Int)} {a b : Nat} {f0 : Int} (hl : RwL l rows) (hv : VM rows) (hne : 0 < rows.length) (ha : a < 256) (hb : b < 256) (hf : -32768 ≤ f0 ∧ f0 ≤ 32767) :
    ∃ x, RwL x (changedR rows (a % rows.length) (b % rows.length) f0) ∧ ∀ m, borrowE E41 41 [l, .int .u8 (a : Nat), .int .u8 (b : Nat), .int .i16 f0] m = some (x, m) := by
  obtain ⟨n, y, m', h1, q, h2⟩ := (f41 hl hv hne ha hb hf).ex
  obtain ⟨x, e1, e2⟩ := GS.rows h2 (changed_all hl.sixR (Nat.mod_lt a hne) (Nat.mod_lt b hne) (f := f0)).2.1
  exact ⟨x, e1, fun m => borrowE_of (pures_cons hl.pureA rfl) ⟨⟨n, y, m', h1, (GS.resV h2).trans e2⟩⟩⟩

noncomputable def E42 : Env := E41.put 41 (borrowE E41 41)
theorem E42_ok : EnvOk Try.prog E42 := Env.put_ok E41_ok (borrowE_ok E41_ok (callable Try.func41 (by kernel_rfl)))
theorem hermR_small {rows : List (List Int)} (hv : VM rows) (h6 : Six rows) : (hermR rows).length ≤ 6 := by
  rw [herm_len hv h6]
  exact (rank_le (fwd_B hv h6)).1
/-- MatrixSame -/
theorem run5 {l : AV} {rows : List (List Int)} {a b : Nat} {f0 : Int} (hl : RwL l rows) (hmax : rows.length < 9223372036854775807) (ha : a < 256) (hb : b < 256) (hf : -32768 ≤ f0 ∧ f0 ≤ 32767) : WF E42 (.func 5 [] []) [l, .int .u8 (a : Nat), .int .u8 (b : Nat), .int .i16 f0] ⟨[], []⟩ fun y m' => y = .bool true := by
  have hll := hl.len
  have c24 := fun m => s24 (m := m)
  have c25 := fun m => x25 (m := m) (l' := l) hl hmax (hl.byVal _)
  by_cases hne : rows.length = 0
  · have hne' : ((rows.length : Nat) : Int) = 0 := by omega
    refine WF.fnE rfl (fn_of Try.func5 cir5) (by show 4 ≤ 124; decide) ?_
    unfold ir5
    simp only [padTo, List.replicate, List.nil_append, List.append_nil, List.cons_append]
    repeat' (first | (refine WO.noE rfl (by simp only [pt8, pt0, pt1, pt2, pt3, pt4, pt5, pt6, pt7]; rfl) ?_) | (refine WO.opE (by intro; simp (disch := omega) only [go_sem, Zz.look, fillP, Option.bind_eq_bind, List.append_assoc, app_g0, app_g1, app_g2, app_g3, app_g4, app_s0, app_s1, app_s2, app_s3, app_s4, zeros, List.length_append, ov_one0, ov_one1, ov_one2, ov_one3, ov_all2, ov_all3, ov_all4, Nat.reduceAdd, Nat.reduceMul, Nat.reduceSub, Nat.reduceLeDiff, Nat.reduceEqDiff, Int.reduceNeg, Int.reduceAdd, Int.reduceToNat, reduceIte, reduceCtorEq, hne, decide_true]; rfl) (by simp only [pt8, pt0, pt1, pt2, pt3, pt4, pt5, pt6, pt7]; rfl) ?_) | (refine WO.opE (by intro; exact ev_lenS (by simp only [go_sem]; first | rfl | assumption)) (by simp only [pt8, pt0, pt1, pt2, pt3, pt4, pt5, pt6, pt7]; rfl) ?_) | (refine WO.specE rfl rfl (c24 _) (by simp only [pt8, pt0, pt1, pt2, pt3, pt4, pt5, pt6, pt7]; rfl) ?_) | (refine WC.seq ?_) | (refine WC.region ?_) | (refine WO.nil ?_) | (simp only [fl1, fl2, fl3, fl4, fl5, fl6, fl7, fl8, fl9, fl10, Nat.reduceBEq]) | (refine WC.yes rfl ?_) | (refine WC.ret ?_))
    exact ⟨_, rfl, rfl⟩
  by_cases hv : VM rows
  · have hne' : ¬ ((rows.length : Nat) : Int) = 0 := by omega
    obtain ⟨x, hx, c41⟩ := s41 hl hv (by omega) ha hb hf
    have hi := Nat.mod_lt a (show 0 < rows.length by omega)
    have hk := Nat.mod_lt b (show 0 < rows.length by omega)
    have hsame := changed_same hl.sixR hi hk (f := f0)
    have hlen := (changed_all hl.sixR hi hk (f := f0)).1
    have hO0 : f0 = 0 → VM (changedR rows (a % rows.length) (b % rows.length) f0) := fun h => by rw [h]; exact changed_VM hl.sixR hv hi hk
    generalize changedR rows (a % rows.length) (b % rows.length) f0 = O at *
    have hmaxO : O.length < 9223372036854775807 := by omega
    rw [decide_eq_true hv] at c25
    obtain ⟨x1, hx1, c27⟩ := x27 hl hmax
    obtain ⟨y1, hy1, d27⟩ := x27 hx hmaxO
    have c27 := fun m => c27 m l (hl.byVal _)
    have d27 := fun m => d27 m x (hx.byVal _)
    have ec : errC rows = 0 := if_pos hv
    rw [ec] at c27
    by_cases hvo : VM O
    · obtain ⟨x2, hx2, c32⟩ := x32 hl hmax
      obtain ⟨y2, hy2, d32⟩ := x32 hx hmaxO
      obtain ⟨x3, hx3, c30⟩ := x30 hl hmax
      obtain ⟨y3, hy3, d30⟩ := x30 hx hmaxO
      have c32 := fun m => c32 m l (hl.byVal _)
      have c30 := fun m => c30 m l (hl.byVal _)
      have d32 := fun m => d32 m x (hx.byVal _)
      have d30 := fun m => d30 m x (hx.byVal _)
      have eo : errC O = 0 := if_pos hvo
      rw [eo] at d27 d32 d30
      rw [ec] at c32 c30
      obtain ⟨s1, s2, s3⟩ := same_all hv hl.sixR.six hvo hx.sixR.six hsame
      have r1 : hermR O = hermR rows := by unfold hermR; rw [if_pos hv, if_pos hvo, s1]
      have r2 : kernR O = kernR rows := by unfold kernR; rw [if_pos hv, if_pos hvo, s2]
      have r3 : divR O = divR rows := by unfold divR; rw [if_pos hv, if_pos hvo, s3]
      rw [r1] at hy1
      rw [r2] at hy3
      rw [r3] at hy2
      have l1 := hermR_small hv hl.sixR.six
      have l2 := div_len hv
      have l3 := kern_len hv hl.sixR.six
      have l4 := rank_le (fwd_B hv hl.sixR.six)
      have c29a := fun m => x29 (m := m) (x' := x1) (y' := y1) hx1 hy1 (by omega) (hx1.byVal _) (hy1.byVal _)
      have c29b := fun m => x29 (m := m) (x' := x3) (y' := y3) hx3 hy3 (by omega) (hx3.byVal _) (hy3.byVal _)
      have c34 := fun m => x34 (m := m) (x' := x2) (y' := y2) hx2 hy2 (by omega) (IntS.byVal hx2 _) (IntS.byVal hy2 _)
      rw [decide_eq_true rfl] at c29a c29b c34
      refine WF.fnE rfl (fn_of Try.func5 cir5) (by show 4 ≤ 124; decide) ?_
      unfold ir5
      simp only [padTo, List.replicate, List.nil_append, List.append_nil, List.cons_append]
      repeat' (first | (refine WO.yes rfl ?_) | (refine WO.opE (by intro; simp (disch := omega) only [go_sem, Zz.look, fillP, Option.bind_eq_bind, List.append_assoc, app_g0, app_g1, app_g2, app_g3, app_g4, app_s0, app_s1, app_s2, app_s3, app_s4, zeros, List.length_append, ov_one0, ov_one1, ov_one2, ov_one3, ov_all2, ov_all3, ov_all4, Nat.reduceAdd, Nat.reduceMul, Nat.reduceSub, Nat.reduceLeDiff, Nat.reduceEqDiff, Int.reduceNeg, Int.reduceAdd, Int.reduceToNat, reduceIte, reduceCtorEq, hne', decide_false]; rfl) (by simp only [pt8, pt0, pt1, pt2, pt3, pt4, pt5, pt6, pt7]; rfl) ?_) | (refine WO.opE (by intro; exact ev_lenS (by simp only [go_sem]; first | rfl | assumption)) (by simp only [pt8, pt0, pt1, pt2, pt3, pt4, pt5, pt6, pt7]; rfl) ?_) | (refine WO.specE rfl rfl (c24 _) (by simp only [pt8, pt0, pt1, pt2, pt3, pt4, pt5, pt6, pt7]; rfl) ?_) | (refine WO.specE rfl rfl (c25 _) (by simp only [pt8, pt0, pt1, pt2, pt3, pt4, pt5, pt6, pt7]; rfl) ?_) | (refine WO.specE rfl rfl (c41 _) (by simp only [pt8, pt0, pt1, pt2, pt3, pt4, pt5, pt6, pt7]; rfl) ?_) | (refine WO.specE rfl rfl (c27 _) (by simp only [pt8, pt0, pt1, pt2, pt3, pt4, pt5, pt6, pt7]; rfl) ?_) | (refine WO.specE rfl rfl (d27 _) (by simp only [pt8, pt0, pt1, pt2, pt3, pt4, pt5, pt6, pt7]; rfl) ?_) | (refine WO.specE rfl rfl (c32 _) (by simp only [pt8, pt0, pt1, pt2, pt3, pt4, pt5, pt6, pt7]; rfl) ?_) | (refine WO.specE rfl rfl (d32 _) (by simp only [pt8, pt0, pt1, pt2, pt3, pt4, pt5, pt6, pt7]; rfl) ?_) | (refine WO.specE rfl rfl (c30 _) (by simp only [pt8, pt0, pt1, pt2, pt3, pt4, pt5, pt6, pt7]; rfl) ?_) | (refine WO.specE rfl rfl (d30 _) (by simp only [pt8, pt0, pt1, pt2, pt3, pt4, pt5, pt6, pt7]; rfl) ?_) | (refine WO.specE rfl rfl (c29a _) (by simp only [pt8, pt0, pt1, pt2, pt3, pt4, pt5, pt6, pt7]; rfl) ?_) | (refine WO.specE rfl rfl (c29b _) (by simp only [pt8, pt0, pt1, pt2, pt3, pt4, pt5, pt6, pt7]; rfl) ?_) | (refine WO.specE rfl rfl (c34 _) (by simp only [pt8, pt0, pt1, pt2, pt3, pt4, pt5, pt6, pt7]; rfl) ?_) | (refine WC.seq ?_) | (refine WC.region ?_) | (refine WO.nil ?_) | (simp only [fl1, fl2, fl3, fl4, fl5, fl6, fl7, fl8, fl9, fl10, Nat.reduceBEq]) | (refine WC.no rfl ?_) | (refine WC.skip ?_) | (refine WC.ret ?_))
      exact ⟨_, rfl, rfl⟩
    · have eo : errC O = 1 := if_neg hvo
      rw [eo] at d27
      have hf0 : ¬ f0 = 0 := fun h => hvo (hO0 h)
      have d25 := fun m => x25 (m := m) (l' := x) hx hmaxO (hx.byVal _)
      rw [decide_eq_false hvo] at d25
      refine WF.fnE rfl (fn_of Try.func5 cir5) (by show 4 ≤ 124; decide) ?_
      unfold ir5
      simp only [padTo, List.replicate, List.nil_append, List.append_nil, List.cons_append]
      repeat' (first | (refine WO.yes rfl ?_) | (refine WO.opE (by intro; simp (disch := omega) only [go_sem, Zz.look, fillP, Option.bind_eq_bind, List.append_assoc, app_g0, app_g1, app_g2, app_g3, app_g4, app_s0, app_s1, app_s2, app_s3, app_s4, zeros, List.length_append, ov_one0, ov_one1, ov_one2, ov_one3, ov_all2, ov_all3, ov_all4, Nat.reduceAdd, Nat.reduceMul, Nat.reduceSub, Nat.reduceLeDiff, Nat.reduceEqDiff, Int.reduceNeg, Int.reduceAdd, Int.reduceToNat, reduceIte, reduceCtorEq, hne', hf0, decide_false]; rfl) (by simp only [pt8, pt0, pt1, pt2, pt3, pt4, pt5, pt6, pt7]; rfl) ?_) | (refine WO.opE (by intro; exact ev_lenS (by simp only [go_sem]; first | rfl | assumption)) (by simp only [pt8, pt0, pt1, pt2, pt3, pt4, pt5, pt6, pt7]; rfl) ?_) | (refine WO.specE rfl rfl (c24 _) (by simp only [pt8, pt0, pt1, pt2, pt3, pt4, pt5, pt6, pt7]; rfl) ?_) | (refine WO.specE rfl rfl (c25 _) (by simp only [pt8, pt0, pt1, pt2, pt3, pt4, pt5, pt6, pt7]; rfl) ?_) | (refine WO.specE rfl rfl (d25 _) (by simp only [pt8, pt0, pt1, pt2, pt3, pt4, pt5, pt6, pt7]; rfl) ?_) | (refine WO.specE rfl rfl (c41 _) (by simp only [pt8, pt0, pt1, pt2, pt3, pt4, pt5, pt6, pt7]; rfl) ?_) | (refine WO.specE rfl rfl (c27 _) (by simp only [pt8, pt0, pt1, pt2, pt3, pt4, pt5, pt6, pt7]; rfl) ?_) | (refine WO.specE rfl rfl (d27 _) (by simp only [pt8, pt0, pt1, pt2, pt3, pt4, pt5, pt6, pt7]; rfl) ?_) | (refine WC.seq ?_) | (refine WC.region ?_) | (refine WO.nil ?_) | (simp only [fl1, fl2, fl3, fl4, fl5, fl6, fl7, fl8, fl9, fl10, Nat.reduceBEq]) | (refine WC.yes rfl ?_) | (refine WC.no rfl ?_) | (refine WC.skip ?_) | (refine WC.ret ?_))
      exact ⟨_, rfl, rfl⟩
  · have hne' : ¬ ((rows.length : Nat) : Int) = 0 := by omega
    rw [decide_eq_false hv] at c25
    refine WF.fnE rfl (fn_of Try.func5 cir5) (by show 4 ≤ 124; decide) ?_
    unfold ir5
    simp only [padTo, List.replicate, List.nil_append, List.append_nil, List.cons_append]
    repeat' (first | (refine WO.yes rfl ?_) | (refine WO.opE (by intro; simp (disch := omega) only [go_sem, Zz.look, fillP, Option.bind_eq_bind, List.append_assoc, app_g0, app_g1, app_g2, app_g3, app_g4, app_s0, app_s1, app_s2, app_s3, app_s4, zeros, List.length_append, ov_one0, ov_one1, ov_one2, ov_one3, ov_all2, ov_all3, ov_all4, Nat.reduceAdd, Nat.reduceMul, Nat.reduceSub, Nat.reduceLeDiff, Nat.reduceEqDiff, Int.reduceNeg, Int.reduceAdd, Int.reduceToNat, reduceIte, reduceCtorEq, hne', decide_false]; rfl) (by simp only [pt8, pt0, pt1, pt2, pt3, pt4, pt5, pt6, pt7]; rfl) ?_) | (refine WO.opE (by intro; exact ev_lenS (by simp only [go_sem]; first | rfl | assumption)) (by simp only [pt8, pt0, pt1, pt2, pt3, pt4, pt5, pt6, pt7]; rfl) ?_) | (refine WO.specE rfl rfl (c24 _) (by simp only [pt8, pt0, pt1, pt2, pt3, pt4, pt5, pt6, pt7]; rfl) ?_) | (refine WO.specE rfl rfl (c25 _) (by simp only [pt8, pt0, pt1, pt2, pt3, pt4, pt5, pt6, pt7]; rfl) ?_) | (refine WC.seq ?_) | (refine WC.region ?_) | (refine WO.nil ?_) | (simp only [fl1, fl2, fl3, fl4, fl5, fl6, fl7, fl8, fl9, fl10, Nat.reduceBEq]) | (refine WC.yes rfl ?_) | (refine WC.ret ?_))
    exact ⟨_, rfl, rfl⟩
end Go.Proofs.Ytnilimjkibimcaa

