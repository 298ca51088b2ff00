import Derived.Test.YtnilimjkibimcaaAbsI
import Derived.Test.YtnilimjkibimcaaPb
import Derived.Test.YtnilimjkibimcaaQa
import Derived.Test.YtnilimjkibimcaaPm
import Derived.Test.YtnilimjkibimcaaPn
set_option linter.unusedSimpArgs false
set_option linter.unusedVariables false

namespace Go.Proofs.Ytnilimjkibimcaa
open Go.Zz
set_option maxRecDepth 100000
set_option maxHeartbeats 8000000
theorem RwL.sixR {x : AV} {rows : List (List Int)} (h : RwL x rows) : SixR rows := fun r hr => by
  obtain ⟨i, hi, rfl⟩ := List.mem_iff_getElem.1 hr
  rw [← rw_lt hi]
  exact h.six hi
noncomputable def E42 : Env := E41.put 41 (borrowE E41 41)
theorem E42_ok : EnvOk Try.prog E42 := Env.put_ok E41_ok (borrowE_ok E41_ok (callable Try.func41 (by kernel_rfl)))
set_option maxRecDepth 100000
set_option maxHeartbeats 8000000
def pivF (r : List Int) : Nat := ((List.range 6).find? fun j => decide (r.getD j 0 ≠ 0)).getD 6
theorem pivF_of {r : List Int} {j : Nat} (h : ∀ t, t < j → r.getD t 0 = 0) (hj : j ≤ 6) (hr : j < 6 → r.getD j 0 ≠ 0) : pivF r = j := by
  unfold pivF
  have key : ∀ n s : Nat, s + n = 6 → s ≤ j → ((List.range' s n).find? fun j => decide (r.getD j 0 ≠ 0)).getD 6 = j := by
    intro n
    induction n with
    | zero => intro s h1 h2; simp; omega
    | succ n ih =>
      intro s h1 h2
      rw [List.range'_succ, List.find?_cons]
      by_cases e : s = j
      · subst e
        rw [decide_eq_true (hr (by omega))]
        rfl
      · rw [decide_eq_false (by rw [h s (by omega)]; simp)]
        exact ih (s + 1) (by omega) (by omega)
  rw [List.range_eq_range']
  exact key 6 0 rfl (Nat.zero_le _)
theorem f43 {r : List Int} (h6 : r.length = 6) : WF E42 (.func 43 [] []) [.agg (icells r)] ⟨[], []⟩ fun y m' => y = .int .i64 (pivF r : Nat) := by
  have hml : (icells r).length = 6 := by rw [icells_len, h6]
  refine WF.fnE rfl (fn_of Try.func43 cir43) (by show 1 ≤ 13; decide) ?_
  unfold ir43; dsimp only [k0, kI, mV, oO, oG]
  simp only [padTo, List.replicate, List.nil_append, List.append_nil, List.cons_append]
  repeat' (first | (refine WO.opE (by intro; simp (disch := omega) only [go_sem, fillP, Option.bind_eq_bind, List.append_assoc, app_g0, app_g1, app_g2, app_g3, app_g4, app_s0, app_s1, app_s2, app_s3, app_s4, zeros, List.length_append, ov_one0, ov_one1, ov_one2, ov_one3, ov_all2, ov_all3, ov_all4, Nat.reduceAdd, Nat.reduceMul, Nat.reduceSub, Nat.reduceLeDiff, Nat.reduceEqDiff, Int.reduceNeg, Int.reduceAdd, Int.reduceToNat, reduceIte, reduceCtorEq, hml]; rfl) (by simp only [pt8, pt0, pt1, pt2, pt3, pt4, pt5, pt6, pt7]; rfl) ?_) | (refine WC.seq ?_) | (refine WC.region ?_) | (refine WO.nil ?_) | (simp only [fl1, fl2, fl3, fl4, fl5, fl6, fl7, fl8, fl9, fl10, Nat.reduceBEq]) | (refine WC.block ?_))
  refine WC.loopI (fun m s => ∃ T j, s = ⟨T, [some ⟨0, icells r⟩], []⟩ ∧ T.length = 13 ∧ gt T 1 = .pref 0 0 0 ∧ gt T 3 = .int .i64 (j : Nat) ∧ m + j = 6 ∧ ∀ t, t < j → r.getD t 0 = 0) ?_ 6 _ ⟨_, 0, rfl, rfl, rfl, rfl, by omega, fun t ht => by omega⟩
  rintro m _ ⟨T, j, rfl, hT, g1, g3, hm, hz⟩
  obtain ⟨f, rfl⟩ := ex13 hT
  clear hT
  replace g1 : f 1 = .pref 0 0 0 := g1
  replace g3 : f 3 = .int .i64 (j : Nat) := g3
  simp only [g1, g3]
  by_cases hj : j < 6
  · have hat := icells_at (r := r) (j := j) (by omega)
    repeat' (first | (refine WO.opE (by intro; simp (disch := omega) only [go_sem, Zz.look, fillP, Option.bind_eq_bind, List.append_assoc, app_g0, app_g1, app_g2, app_g3, app_g4, app_s0, app_s1, app_s2, app_s3, app_s4, zeros, List.length_append, ov_one0, ov_one1, ov_one2, ov_one3, ov_all2, ov_all3, ov_all4, Nat.reduceAdd, Nat.reduceMul, Nat.reduceSub, Nat.reduceLeDiff, Nat.reduceEqDiff, Int.reduceNeg, Int.reduceAdd, Int.reduceToNat, reduceIte, reduceCtorEq, hat, Nat.mul_one, Nat.zero_add]; rfl) (by simp only [pt8, pt0, pt1, pt2, pt3, pt4, pt5, pt6, pt7]; rfl) ?_) | (refine WC.seq ?_) | (refine WC.region ?_) | (refine WO.nil ?_) | (simp only [fl1, fl2, fl3, fl4, fl5, fl6, fl7, fl8, fl9, fl10, Nat.reduceBEq]) | (refine WC.skip ?_) | (refine WC.ret ?_) | (refine WC.block ?_) | (refine WC.em2 rfl (fun hp => ?_) (fun hp => ?_) <;> try (exfalso; first | omega | contradiction)))
    · exact ⟨_, rfl, by rw [pivF_of hz (by omega) fun _ h => hp h]; rfl⟩
    · exact ⟨m - 1, by omega, _, j + 1, rfl, rfl, rfl, rfl, by omega, fun t ht => by
        by_cases e : t = j
        · subst e; exact Decidable.byContradiction fun h => hp h
        · exact hz t (by omega)⟩
  · have hje : j = 6 := by omega
    subst hje
    repeat' (first | (refine WO.opE (by intro; simp (disch := omega) only [go_sem, fillP, Option.bind_eq_bind, List.append_assoc, app_g0, app_g1, app_g2, app_g3, app_g4, app_s0, app_s1, app_s2, app_s3, app_s4, zeros, List.length_append, ov_one0, ov_one1, ov_one2, ov_one3, ov_all2, ov_all3, ov_all4, Nat.reduceAdd, Nat.reduceMul, Nat.reduceSub, Nat.reduceLeDiff, Nat.reduceEqDiff, Int.reduceNeg, Int.reduceAdd, Int.reduceToNat, reduceIte, reduceCtorEq]; rfl) (by simp only [pt8, pt0, pt1, pt2, pt3, pt4, pt5, pt6, pt7]; rfl) ?_) | (refine WC.seq ?_) | (refine WC.region ?_) | (refine WO.nil ?_) | (simp only [fl1, fl2, fl3, fl4, fl5, fl6, fl7, fl8, fl9, fl10, Nat.reduceBEq]) | (refine WC.no rfl ?_) | (refine WC.exit ?_) | (refine WC.ret ?_))
    exact ⟨_, rfl, by rw [pivF_of hz (by omega) (fun h => by omega)]; rfl⟩
set_option maxRecDepth 100000
set_option maxHeartbeats 8000000
theorem s43 {r : List Int} (h6 : r.length = 6) {m : Mem} : borrowE E42 43 [.agg (icells r)] m = some (.int .i64 (pivF r : Nat), m) :=
  borrowE_of (pures_cons (by
    show (icells r).all Zz.pureC = true
    unfold icells
    rw [List.all_map]
    exact List.all_eq_true.2 fun _ _ => rfl) rfl) ((f43 h6).mono fun y m' h => by rw [h]; rfl)
noncomputable def E43 : Env := E42.put 43 (borrowE E42 43)
theorem E43_ok : EnvOk Try.prog E43 := Env.put_ok E42_ok (borrowE_ok E42_ok (callable Try.func43 (by kernel_rfl)))
theorem f38 {r : List Int} (h6 : r.length = 6) : WF E43 (.func 38 [] []) [.agg (icells r)] ⟨[], []⟩ fun y m' => y = .bool (decide (smallV r)) := by
  have hml : (icells r).length = 6 := by rw [icells_len, h6]
  refine WF.fnE rfl (fn_of Try.func38 cir38) (by show 1 ≤ 18; decide) ?_
  unfold ir38; dsimp only [k0, kI, mV, oO, oG]
  simp only [padTo, List.replicate, List.nil_append, List.append_nil, List.cons_append]
  repeat' (first | (refine WO.opE (by intro; simp (disch := omega) only [go_sem, fillP, Option.bind_eq_bind, List.append_assoc, app_g0, app_g1, app_g2, app_g3, app_g4, app_s0, app_s1, app_s2, app_s3, app_s4, zeros, List.length_append, ov_one0, ov_one1, ov_one2, ov_one3, ov_all2, ov_all3, ov_all4, Nat.reduceAdd, Nat.reduceMul, Nat.reduceSub, Nat.reduceLeDiff, Nat.reduceEqDiff, Int.reduceNeg, Int.reduceAdd, Int.reduceToNat, reduceIte, reduceCtorEq, hml]; rfl) (by simp only [pt8, pt0, pt1, pt2, pt3, pt4, pt5, pt6, pt7]; rfl) ?_) | (refine WC.seq ?_) | (refine WC.region ?_) | (refine WO.nil ?_) | (simp only [fl1, fl2, fl3, fl4, fl5, fl6, fl7, fl8, fl9, fl10, Nat.reduceBEq]) | (refine WC.block ?_))
  refine WC.loopI (fun m s => ∃ T j, s = ⟨T, [some ⟨0, icells r⟩], []⟩ ∧ T.length = 18 ∧ gt T 1 = .pref 0 0 0 ∧ gt T 3 = .int .i64 (j : Nat) ∧ m + j = 6 ∧ ∀ t, t < j → -1000 ≤ r.getD t 0 ∧ r.getD t 0 ≤ 1000) ?_ 6 _ ⟨_, 0, rfl, rfl, rfl, rfl, by omega, fun t ht => by omega⟩
  rintro m _ ⟨T, j, rfl, hT, g1, g3, hm, hz⟩
  obtain ⟨f, rfl⟩ := ex18 hT
  clear hT
  replace g1 : f 1 = .pref 0 0 0 := g1
  replace g3 : f 3 = .int .i64 (j : Nat) := g3
  simp only [g1, g3]
  by_cases hj : j < 6
  · have hat := icells_at (r := r) (j := j) (by omega)
    repeat' (first | (refine WO.yes rfl ?_) | (refine WO.noE rfl (by simp only [pt8, pt0, pt1, pt2, pt3, pt4, pt5, pt6, pt7]; rfl) ?_) | (refine WO.opE (by intro; simp (disch := omega) only [go_sem, Zz.look, fillP, Option.bind_eq_bind, List.append_assoc, app_g0, app_g1, app_g2, app_g3, app_g4, app_s0, app_s1, app_s2, app_s3, app_s4, zeros, List.length_append, ov_one0, ov_one1, ov_one2, ov_one3, ov_all2, ov_all3, ov_all4, Nat.reduceAdd, Nat.reduceMul, Nat.reduceSub, Nat.reduceLeDiff, Nat.reduceEqDiff, Int.reduceNeg, Int.reduceAdd, Int.reduceToNat, reduceIte, reduceCtorEq, hat, Nat.mul_one, Nat.zero_add, decide_false]; rfl) (by simp only [pt8, pt0, pt1, pt2, pt3, pt4, pt5, pt6, pt7]; rfl) ?_) | (refine WC.seq ?_) | (refine WC.region ?_) | (refine WO.nil ?_) | (simp only [fl1, fl2, fl3, fl4, fl5, fl6, fl7, fl8, fl9, fl10, Nat.reduceBEq]) | (refine WC.yes rfl ?_) | (refine WC.skip ?_) | (refine WC.ret ?_) | (refine WC.block ?_) | (refine WO.em2 rfl (by intro hp; simp only [hp, decide_true]; rfl) (by intro hp; simp only [hp, decide_false]; rfl) (fun hp => ?_) (fun hp => ?_) <;> try (exfalso; first | omega | contradiction)) | (refine WC.em2 rfl (fun hp => ?_) (fun hp => ?_) <;> try (exfalso; first | omega | contradiction)))
    all_goals first
      | exact ⟨_, rfl, by rw [decide_eq_false fun h => by have := h j hj; omega]; rfl⟩
      | exact ⟨m - 1, by omega, _, j + 1, rfl, rfl, rfl, rfl, by omega, fun t ht => by
        by_cases e : t = j
        · subst e; omega
        · exact hz t (by omega)⟩
  · have hje : j = 6 := by omega
    subst hje
    repeat' (first | (refine WO.opE (by intro; simp (disch := omega) only [go_sem, fillP, Option.bind_eq_bind, List.append_assoc, app_g0, app_g1, app_g2, app_g3, app_g4, app_s0, app_s1, app_s2, app_s3, app_s4, zeros, List.length_append, ov_one0, ov_one1, ov_one2, ov_one3, ov_all2, ov_all3, ov_all4, Nat.reduceAdd, Nat.reduceMul, Nat.reduceSub, Nat.reduceLeDiff, Nat.reduceEqDiff, Int.reduceNeg, Int.reduceAdd, Int.reduceToNat, reduceIte, reduceCtorEq]; rfl) (by simp only [pt8, pt0, pt1, pt2, pt3, pt4, pt5, pt6, pt7]; rfl) ?_) | (refine WC.seq ?_) | (refine WC.region ?_) | (refine WO.nil ?_) | (simp only [fl1, fl2, fl3, fl4, fl5, fl6, fl7, fl8, fl9, fl10, Nat.reduceBEq]) | (refine WC.no rfl ?_) | (refine WC.exit ?_) | (refine WC.ret ?_))
    exact ⟨_, rfl, by rw [decide_eq_true (show smallV r from hz)]; rfl⟩
theorem pure_icells (r : List Int) : Zz.pureA (.agg (icells r)) = true := by
  show (icells r).all Zz.pureC = true
  unfold icells
  rw [List.all_map]
  exact List.all_eq_true.2 fun _ _ => rfl
theorem s38 {r : List Int} (h6 : r.length = 6) {m : Mem} : borrowE E43 38 [.agg (icells r)] m = some (.bool (decide (smallV r)), m) :=
  borrowE_of (pures_cons (pure_icells r) rfl) ((f38 h6).mono fun y m' h => by rw [h]; rfl)
noncomputable def E44 : Env := E43.put 38 (borrowE E43 38)
theorem E44_ok : EnvOk Try.prog E44 := Env.put_ok E43_ok (borrowE_ok E43_ok (callable Try.func38 (by kernel_rfl)))
theorem piv_hf {H : List (List Int)} {m : Nat} {p : Nat → Nat} (hT : HF 6 (ent H) m p) {k : Nat} (hk : k < m) : pivF (rw_ H k) = p k :=
  pivF_of (fun t ht => hT.zero k hk t ht) (by have := hT.plt k hk; omega) fun _ h => by have := hT.pos k hk; unfold ent at this; omega
theorem f37 {l : AV} {H : List (List Int)} {p : Nat → Nat} (hl : RwL l H) (hT : HF 6 (ent H) H.length p) (hm6 : H.length ≤ 6) : WF E44 (.func 37 [] []) [l] ⟨[], []⟩ fun y m' => y = .bool true := by
  have hll := hl.len
  refine WF.fnE rfl (fn_of Try.func37 cir37) (by show 1 ≤ 69; decide) ?_
  unfold ir37; dsimp only [k0, kI, mV, oO, oG]
  simp only [padTo, List.replicate, List.nil_append, List.append_nil, List.cons_append]
  repeat' (first | (refine WO.opE (by intro; simp (disch := omega) only [go_sem, fillP, Option.bind_eq_bind, List.append_assoc, app_g0, app_g1, app_g2, app_g3, app_g4, app_s0, app_s1, app_s2, app_s3, app_s4, zeros, List.length_append, ov_one0, ov_one1, ov_one2, ov_one3, ov_all2, ov_all3, ov_all4, Nat.reduceAdd, Nat.reduceMul, Nat.reduceSub, Nat.reduceLeDiff, Nat.reduceEqDiff, Int.reduceNeg, Int.reduceAdd, Int.reduceToNat, reduceIte, reduceCtorEq]; rfl) (by simp only [pt8, pt0, pt1, pt2, pt3, pt4, pt5, pt6, pt7]; rfl) ?_) | (refine WC.seq ?_) | (refine WC.region ?_) | (refine WO.nil ?_) | (simp only [fl1, fl2, fl3, fl4, fl5, fl6, fl7, fl8, fl9, fl10, Nat.reduceBEq]) | (refine WC.block ?_))
  refine WC.loopI (fun m s => ∃ T k, s = ⟨T, [], []⟩ ∧ T.length = 69 ∧ gt T 0 = l ∧ gt T 3 = .int .i64 (k : Nat) ∧ m + k = H.length) ?_ H.length _ ⟨_, 0, rfl, rfl, rfl, rfl, by omega⟩
  rintro m _ ⟨T, k, rfl, hTl, g0, g3, hm⟩
  obtain ⟨f, rfl⟩ := ex69 hTl
  clear hTl
  replace g0 : f 0 = l := g0
  replace g3 : f 3 = .int .i64 (k : Nat) := g3
  simp only [g0, g3]
  by_cases hk : k < H.length
  · have h6 := hl.six hk
    have hat := hl.at hk
    have hcut := cut_row (t := tailr H k) h6
    have hcr : (rw_ H k).map (AV.int .i64) = icells (rw_ H k) := rfl
    rw [hcr] at hat hcut
    have c43 := fun m => s43 (m := m) h6
    rw [piv_hf hT hk] at c43
    have hp6 := hT.plt k hk
    have hpos := hT.pos k hk
    have hdr := dr_row (t := tailr H k) (r := rw_ H k) (j := p k) (by omega)
    rw [hcr] at hdr
    have hpe : (rw_ H k).getD (p k) 0 = ent H k (p k) := rfl
    rw [hpe] at hdr
    have h6' := hl.six (i := k - 1) (by omega)
    have hat' := hl.at (i := k - 1) (by omega)
    have hcut' := cut_row (t := tailr H (k - 1)) h6'
    have hcr' : (rw_ H (k - 1)).map (AV.int .i64) = icells (rw_ H (k - 1)) := rfl
    rw [hcr'] at hat' hcut'
    have d43 := fun m => s43 (m := m) h6'
    rw [piv_hf hT (k := k - 1) (by omega)] at d43
    have hup : k = 0 ∨ p (k - 1) < p k := by
      by_cases e : k = 0
      · exact .inl e
      · exact .inr (hT.up (k - 1) k (by omega) hk)
    have hkm : 0 < k → ((k : Nat) : Int) - 1 = ((k - 1 : Nat) : Int) := fun h => by omega
    repeat' (first | (refine WO.yes rfl ?_) | (refine WO.noE rfl (by simp only [pt8, pt0, pt1, pt2, pt3, pt4, pt5, pt6, pt7]; rfl) ?_) | (refine WO.opE (by intro; simp (disch := omega) only [go_sem, fillP, Option.bind_eq_bind, List.append_assoc, app_g0, app_g1, app_g2, app_g3, app_g4, app_s0, app_s1, app_s2, app_s3, app_s4, zeros, List.length_append, ov_one0, ov_one1, ov_one2, ov_one3, ov_all2, ov_all3, ov_all4, Nat.reduceAdd, Nat.reduceMul, Nat.reduceSub, Nat.reduceLeDiff, Nat.reduceEqDiff, Int.reduceNeg, Int.reduceAdd, Int.reduceToNat, reduceIte, reduceCtorEq, hat, hcut, hdr, hat', hcut', hkm, Nat.mul_one]; rfl) (by simp only [pt8, pt0, pt1, pt2, pt3, pt4, pt5, pt6, pt7]; rfl) ?_) | (refine WO.opE (by intro; exact ev_lenS (by simp only [go_sem]; first | rfl | assumption)) (by simp only [pt8, pt0, pt1, pt2, pt3, pt4, pt5, pt6, pt7]; rfl) ?_) | (refine WO.specE rfl rfl (c43 _) (by simp only [pt8, pt0, pt1, pt2, pt3, pt4, pt5, pt6, pt7]; rfl) ?_) | (refine WO.specE rfl rfl (d43 _) (by simp only [pt8, pt0, pt1, pt2, pt3, pt4, pt5, pt6, pt7]; rfl) ?_) | (refine WC.seq ?_) | (refine WC.region ?_) | (refine WO.nil ?_) | (simp only [fl1, fl2, fl3, fl4, fl5, fl6, fl7, fl8, fl9, fl10, Nat.reduceBEq]) | (refine WC.no rfl ?_) | (refine WC.skip ?_) | (refine WC.block ?_) | (refine WO.em2 rfl (by intro hp; simp only [hp, decide_true]; rfl) (by intro hp; simp only [hp, decide_false]; rfl) (fun hp => ?_) (fun hp => ?_) <;> try (exfalso; first | omega | contradiction)) | (refine WC.em2 rfl (fun hp => ?_) (fun hp => ?_) <;> try (exfalso; first | omega | contradiction)))
    all_goals
      refine WC.loopI (fun m2 s => ∃ T i, s = ⟨T, [], []⟩ ∧ T.length = 69 ∧ gt T 0 = l ∧ gt T 3 = .int .i64 (k : Nat) ∧ gt T 4 = .int .i64 (p k : Nat) ∧ gt T 5 = .int .i64 (i : Nat) ∧ m2 + i = k) ?_ k _ ⟨_, 0, rfl, rfl, rfl, rfl, rfl, rfl, by omega⟩
      clear g0 g3 f
      rintro m2 _ ⟨T, i, rfl, hTl, g0, g3, g4, g5, hm2⟩
      obtain ⟨f, rfl⟩ := ex69 hTl
      clear hTl
      replace g0 : f 0 = l := g0
      replace g3 : f 3 = .int .i64 (k : Nat) := g3
      replace g4 : f 4 = .int .i64 (p k : Nat) := g4
      replace g5 : f 5 = .int .i64 (i : Nat) := g5
      simp only [g0, g3, g4, g5]
      by_cases hi : i < k
      · have g6 := hl.six (i := i) (by omega)
        have gat := hl.at (i := i) (by omega)
        have gdr := dr_row (t := tailr H i) (r := rw_ H i) (j := p k) (by omega)
        have gcr : (rw_ H i).map (AV.int .i64) = icells (rw_ H i) := rfl
        rw [gcr] at gat gdr
        have gpe : (rw_ H i).getD (p k) 0 = ent H i (p k) := rfl
        rw [gpe] at gdr
        have hred := hT.red i k hi hk
        obtain ⟨r1, r2⟩ := hred
        repeat' (first | (refine WO.yes rfl ?_) | (refine WO.opE (by intro; simp (disch := omega) only [go_sem, fillP, Option.bind_eq_bind, List.append_assoc, app_g0, app_g1, app_g2, app_g3, app_g4, app_s0, app_s1, app_s2, app_s3, app_s4, zeros, List.length_append, ov_one0, ov_one1, ov_one2, ov_one3, ov_all2, ov_all3, ov_all4, Nat.reduceAdd, Nat.reduceMul, Nat.reduceSub, Nat.reduceLeDiff, Nat.reduceEqDiff, Int.reduceNeg, Int.reduceAdd, Int.reduceToNat, reduceIte, reduceCtorEq, hat, hdr, gat, gdr, Nat.mul_one]; rfl) (by simp only [pt8, pt0, pt1, pt2, pt3, pt4, pt5, pt6, pt7]; rfl) ?_) | (refine WC.seq ?_) | (refine WC.region ?_) | (refine WO.nil ?_) | (simp only [fl1, fl2, fl3, fl4, fl5, fl6, fl7, fl8, fl9, fl10, Nat.reduceBEq]) | (refine WC.calm rfl ?_) | (refine WC.skip ?_) | (refine WC.block ?_) | (refine WO.em2 rfl (by intro hp; simp only [hp, decide_true]; rfl) (by intro hp; simp only [hp, decide_false]; rfl) (fun hp => ?_) (fun hp => ?_) <;> try (exfalso; first | omega | contradiction)) | (refine WC.em2 rfl (fun hp => ?_) (fun hp => ?_) <;> try (exfalso; first | omega | contradiction)))
        all_goals exact ⟨m2 - 1, by omega, _, i + 1, rfl, rfl, rfl, rfl, rfl, rfl, by omega⟩
      · have hie : i = k := by omega
        subst hie
        repeat' (first | (refine WO.opE (by intro; simp (disch := omega) only [go_sem, fillP, Option.bind_eq_bind, List.append_assoc, app_g0, app_g1, app_g2, app_g3, app_g4, app_s0, app_s1, app_s2, app_s3, app_s4, zeros, List.length_append, ov_one0, ov_one1, ov_one2, ov_one3, ov_all2, ov_all3, ov_all4, Nat.reduceAdd, Nat.reduceMul, Nat.reduceSub, Nat.reduceLeDiff, Nat.reduceEqDiff, Int.reduceNeg, Int.reduceAdd, Int.reduceToNat, reduceIte, reduceCtorEq]; rfl) (by simp only [pt8, pt0, pt1, pt2, pt3, pt4, pt5, pt6, pt7]; rfl) ?_) | (refine WC.seq ?_) | (refine WC.region ?_) | (refine WO.nil ?_) | (simp only [fl1, fl2, fl3, fl4, fl5, fl6, fl7, fl8, fl9, fl10, Nat.reduceBEq]) | (refine WC.exit ?_) | (refine WC.em2 rfl (fun hp => ?_) (fun hp => ?_) <;> try (exfalso; first | omega | contradiction)))
        all_goals exact ⟨m - 1, by omega, _, i + 1, rfl, rfl, rfl, rfl, by omega⟩
  · have hke : k = H.length := by omega
    subst hke
    repeat' (first | (refine WO.opE (by intro; simp (disch := omega) only [go_sem, fillP, Option.bind_eq_bind, List.append_assoc, app_g0, app_g1, app_g2, app_g3, app_g4, app_s0, app_s1, app_s2, app_s3, app_s4, zeros, List.length_append, ov_one0, ov_one1, ov_one2, ov_one3, ov_all2, ov_all3, ov_all4, Nat.reduceAdd, Nat.reduceMul, Nat.reduceSub, Nat.reduceLeDiff, Nat.reduceEqDiff, Int.reduceNeg, Int.reduceAdd, Int.reduceToNat, reduceIte, reduceCtorEq]; rfl) (by simp only [pt8, pt0, pt1, pt2, pt3, pt4, pt5, pt6, pt7]; rfl) ?_) | (refine WO.opE (by intro; exact ev_lenS (by simp only [go_sem]; first | rfl | assumption)) (by simp only [pt8, pt0, pt1, pt2, pt3, pt4, pt5, pt6, pt7]; rfl) ?_) | (refine WC.seq ?_) | (refine WC.region ?_) | (refine WO.nil ?_) | (simp only [fl1, fl2, fl3, fl4, fl5, fl6, fl7, fl8, fl9, fl10, Nat.reduceBEq]) | (refine WC.exit ?_) | (refine WC.ret ?_) | (refine WC.em2 rfl (fun hp => ?_) (fun hp => ?_) <;> try (exfalso; first | omega | contradiction)))
    exact ⟨_, rfl, rfl⟩
theorem s37 {l : AV} {H : List (List Int)} {p : Nat → Nat} (hl : RwL l H) (hT : HF 6 (ent H) H.length p) (hm6 : H.length ≤ 6) {m : Mem} : borrowE E44 37 [l] m = some (.bool true, m) :=
  borrowE_of (pures_cons hl.pureA rfl) ((f37 hl hT hm6).mono fun y m' h => by rw [h]; rfl)
noncomputable def E45 : Env := E44.put 37 (borrowE E44 37)
theorem E45_ok : EnvOk Try.prog E45 := Env.put_ok E44_ok (borrowE_ok E44_ok (callable Try.func37 (by kernel_rfl)))
theorem f39 {l : AV} {H : List (List Int)} {p : Nat → Nat} {v : List Int} (hl : RwL l H) (hT : HF 6 (ent H) H.length p) (hm6 : H.length ≤ 6) (hb : Bd6 H) (h6v : v.length = 6) (hs : smallV v) (hin : RowL (ent H) H.length fun j => v.getD j 0) :
    WF E45 (.func 39 [] []) [l, .agg (icells v)] ⟨[], []⟩ fun y m' => y = .bool true := by
  have hll := hl.len
  have hml : (icells v).length = 6 := by rw [icells_len, h6v]
  obtain ⟨c, hc⟩ := hin.coef
  have hcb := coef_bound hT hc hs
  have hrb := fun j (hj : j < 6) => rem_bd (H := H) (v := fun j => v.getD j 0) (c := c) hm6 hb hs hcb hj
  refine WF.fnE rfl (fn_of Try.func39 cir39) (by show 2 ≤ 65; decide) ?_
  unfold ir39; dsimp only [k0, kI, mV, oO, oG]
  simp only [padTo, List.replicate, List.nil_append, List.append_nil, List.cons_append]
  repeat' (first | (refine WO.opE (by intro; simp (disch := omega) only [go_sem, fillP, Option.bind_eq_bind, List.append_assoc, app_g0, app_g1, app_g2, app_g3, app_g4, app_s0, app_s1, app_s2, app_s3, app_s4, zeros, List.length_append, ov_one0, ov_one1, ov_one2, ov_one3, ov_all2, ov_all3, ov_all4, Nat.reduceAdd, Nat.reduceMul, Nat.reduceSub, Nat.reduceLeDiff, Nat.reduceEqDiff, Int.reduceNeg, Int.reduceAdd, Int.reduceToNat, reduceIte, reduceCtorEq, hml]; rfl) (by simp only [pt8, pt0, pt1, pt2, pt3, pt4, pt5, pt6, pt7]; rfl) ?_) | (refine WC.seq ?_) | (refine WC.region ?_) | (refine WO.nil ?_) | (simp only [fl1, fl2, fl3, fl4, fl5, fl6, fl7, fl8, fl9, fl10, Nat.reduceBEq]) | (refine WC.block ?_))
  refine WC.loopI (fun m s => ∃ T k w, s = ⟨T, [some ⟨0, icells w⟩], []⟩ ∧ T.length = 65 ∧ gt T 0 = l ∧ gt T 3 = .pref 0 0 0 ∧ gt T 5 = .int .i64 (k : Nat) ∧ m + k = H.length ∧ w.length = 6 ∧ ∀ j, j < 6 → w.getD j 0 = remF (ent H) c (fun j => v.getD j 0) k j) ?_ H.length _ ⟨_, 0, v, rfl, rfl, rfl, rfl, rfl, by omega, h6v, fun j hj => (Int.sub_zero _).symm⟩
  rintro m _ ⟨T, k, w, rfl, hTl, g0, g3, g5, hm, hwl, hw⟩
  obtain ⟨f, rfl⟩ := ex65 hTl
  clear hTl
  replace g0 : f 0 = l := g0
  replace g3 : f 3 = .pref 0 0 0 := g3
  replace g5 : f 5 = .int .i64 (k : Nat) := g5
  simp only [g0, g3, g5]
  by_cases hk : k < H.length
  · have h6 := hl.six hk
    have hat := hl.at hk
    have hcut := cut_row (t := tailr H k) h6
    have hcr : (rw_ H k).map (AV.int .i64) = icells (rw_ H k) := rfl
    rw [hcr] at hat hcut
    have c43 := fun m => s43 (m := m) h6
    rw [piv_hf hT hk] at c43
    have hp6 := hT.plt k hk
    have hpos := hT.pos k hk
    have hdr := dr_row (t := tailr H k) (r := rw_ H k) (j := p k) (by omega)
    rw [hcr] at hdr
    have hpe : (rw_ H k).getD (p k) 0 = ent H k (p k) := rfl
    rw [hpe] at hdr
    have hwat := icells_at (r := w) (j := p k) (by omega)
    have hlead := rem_lead hT hc hk
    rw [hw _ hp6, hlead] at hwat
    have hne0 : ¬ ent H k (p k) = 0 := by omega
    have e1 : (c k * ent H k (p k)).tmod (ent H k (p k)) = 0 := Int.mul_tmod_left _ _
    have e2 : (c k * ent H k (p k)).tdiv (ent H k (p k)) = c k := Int.mul_tdiv_cancel _ hne0
    have hck := ((hrb (p k) hp6).1 k hk)
    obtain ⟨b1, b2, b3, b4⟩ := hck
    repeat' (first | (refine WO.yes rfl ?_) | (refine WO.opE (by intro; simp (disch := omega) only [go_sem, Zz.look, fillP, Option.bind_eq_bind, List.append_assoc, app_g0, app_g1, app_g2, app_g3, app_g4, app_s0, app_s1, app_s2, app_s3, app_s4, zeros, List.length_append, ov_one0, ov_one1, ov_one2, ov_one3, ov_all2, ov_all3, ov_all4, Nat.reduceAdd, Nat.reduceMul, Nat.reduceSub, Nat.reduceLeDiff, Nat.reduceEqDiff, Int.reduceNeg, Int.reduceAdd, Int.reduceToNat, reduceIte, reduceCtorEq, hat, hcut, hdr, hwat, hne0, if_false, e1, e2, Nat.mul_one, Nat.zero_add]; rfl) (by simp only [pt8, pt0, pt1, pt2, pt3, pt4, pt5, pt6, pt7]; rfl) ?_) | (refine WO.opE (by intro; exact ev_lenS (by simp only [go_sem]; first | rfl | assumption)) (by simp only [pt8, pt0, pt1, pt2, pt3, pt4, pt5, pt6, pt7]; rfl) ?_) | (refine WO.specE rfl rfl (c43 _) (by simp only [pt8, pt0, pt1, pt2, pt3, pt4, pt5, pt6, pt7]; rfl) ?_) | (refine WC.seq ?_) | (refine WC.region ?_) | (refine WO.nil ?_) | (simp only [fl1, fl2, fl3, fl4, fl5, fl6, fl7, fl8, fl9, fl10, Nat.reduceBEq]) | (refine WC.calm rfl ?_) | (refine WC.no rfl ?_) | (refine WC.skip ?_) | (refine WC.block ?_) | (refine WO.em2 rfl (by intro hp; simp only [hp, decide_true]; rfl) (by intro hp; simp only [hp, decide_false]; rfl) (fun hp => ?_) (fun hp => ?_) <;> try (exfalso; first | omega | contradiction)) | (refine WC.em2 rfl (fun hp => ?_) (fun hp => ?_) <;> try (exfalso; first | omega | contradiction)))
    have hml2 : (icells w).length = 6 := by rw [icells_len, hwl]
    refine WC.loopI (fun m2 s => ∃ T j w2, s = ⟨T, [some ⟨0, icells w2⟩], []⟩ ∧ T.length = 65 ∧ gt T 0 = l ∧ gt T 3 = .pref 0 0 0 ∧ gt T 5 = .int .i64 (k : Nat) ∧ gt T 7 = .int .i64 (c k) ∧ gt T 8 = .int .i64 (j : Nat) ∧ m2 + j = 6 ∧ w2.length = 6 ∧ (∀ t, t < j → w2.getD t 0 = remF (ent H) c (fun j => v.getD j 0) (k + 1) t) ∧ ∀ t, j ≤ t → t < 6 → w2.getD t 0 = remF (ent H) c (fun j => v.getD j 0) k t) ?_ 6 _ ⟨_, 0, w, rfl, rfl, rfl, rfl, rfl, rfl, rfl, by omega, hwl, fun t ht => by omega, fun t _ ht => hw t ht⟩
    clear g0 g3 g5 f hwat hw hml2 hwl w
    rintro m2 _ ⟨T, j, w, rfl, hTl, g0, g3, g5, g7, g8, hm2, hwl, hw1, hw2⟩
    obtain ⟨f, rfl⟩ := ex65 hTl
    clear hTl
    replace g0 : f 0 = l := g0
    replace g3 : f 3 = .pref 0 0 0 := g3
    replace g5 : f 5 = .int .i64 (k : Nat) := g5
    replace g7 : f 7 = .int .i64 (c k) := g7
    replace g8 : f 8 = .int .i64 (j : Nat) := g8
    simp only [g0, g3, g5, g7, g8]
    by_cases hj : j < 6
    · obtain ⟨a1, a2⟩ := hrb j hj
      obtain ⟨_, _, b5, b6⟩ := a1 k hk
      have a3 := a2 k (by omega)
      have a4 := a2 (k + 1) (by omega)
      have hrs := rem_succ (ent H) c (fun j => v.getD j 0) k j
      rw [hrs] at a4
      have hwat := icells_at (r := w) (j := j) (by omega)
      rw [hw2 j (Nat.le_refl _) hj] at hwat
      have hdj := dr_row (t := tailr H k) (r := rw_ H k) (j := j) (by omega)
      rw [hcr] at hdj
      have hje : (rw_ H k).getD j 0 = ent H k j := rfl
      rw [hje] at hdj
      have hov := icells_over (r := w) (j := j) (by omega) (remF (ent H) c (fun j => v.getD j 0) k j - c k * ent H k j)
      generalize remF (ent H) c (fun j => v.getD j 0) k j = x at *
      obtain ⟨a5, a6⟩ := a3
      obtain ⟨a7, a8⟩ := a4
      repeat' (first | (refine WO.opE (by intro; simp (disch := omega) only [go_sem, Zz.look, fillP, Option.bind_eq_bind, List.append_assoc, app_g0, app_g1, app_g2, app_g3, app_g4, app_s0, app_s1, app_s2, app_s3, app_s4, zeros, List.length_append, ov_one0, ov_one1, ov_one2, ov_one3, ov_all2, ov_all3, ov_all4, Nat.reduceAdd, Nat.reduceMul, Nat.reduceSub, Nat.reduceLeDiff, Nat.reduceEqDiff, Int.reduceNeg, Int.reduceAdd, Int.reduceToNat, reduceIte, reduceCtorEq, hat, hdj, hwat, hov, Nat.mul_one, Nat.zero_add, setBlk]; rfl) (by simp only [pt8, pt0, pt1, pt2, pt3, pt4, pt5, pt6, pt7]; rfl) ?_) | (refine WO.opN (by intro; simp (disch := omega) only [go_sem, Zz.look, fillP, Option.bind_eq_bind, List.append_assoc, app_g0, app_g1, app_g2, app_g3, app_g4, app_s0, app_s1, app_s2, app_s3, app_s4, zeros, List.length_append, ov_one0, ov_one1, ov_one2, ov_one3, ov_all2, ov_all3, ov_all4, Nat.reduceAdd, Nat.reduceMul, Nat.reduceSub, Nat.reduceLeDiff, Nat.reduceEqDiff, Int.reduceNeg, Int.reduceAdd, Int.reduceToNat, reduceIte, reduceCtorEq, hat, hdj, hwat, hov, Nat.mul_one, Nat.zero_add, setBlk]; rfl) ?_) | (refine WC.seq ?_) | (refine WC.region ?_) | (refine WO.nil ?_) | (simp only [fl1, fl2, fl3, fl4, fl5, fl6, fl7, fl8, fl9, fl10, Nat.reduceBEq]) | (refine WC.calm rfl ?_) | (refine WC.skip ?_) | (refine WC.block ?_) | (refine WC.em2 rfl (fun hp => ?_) (fun hp => ?_) <;> try (exfalso; first | omega | contradiction)))
      exact ⟨m2 - 1, by omega, _, j + 1, w.set j (x - c k * ent H k j), rfl, rfl, rfl, rfl, rfl, rfl, rfl, by omega, by simpa using hwl, fun t ht => by
        by_cases e : t = j
        · subst e; rw [getD_set_self (by omega), hrs]
        · rw [getD_set_ne (by omega)]; exact hw1 t (by omega), fun t h1 h2 => by
        rw [getD_set_ne (by omega)]; exact hw2 t (by omega) h2⟩
    · have hje : j = 6 := by omega
      subst hje
      repeat' (first | (refine WO.opE (by intro; simp (disch := omega) only [go_sem, fillP, Option.bind_eq_bind, List.append_assoc, app_g0, app_g1, app_g2, app_g3, app_g4, app_s0, app_s1, app_s2, app_s3, app_s4, zeros, List.length_append, ov_one0, ov_one1, ov_one2, ov_one3, ov_all2, ov_all3, ov_all4, Nat.reduceAdd, Nat.reduceMul, Nat.reduceSub, Nat.reduceLeDiff, Nat.reduceEqDiff, Int.reduceNeg, Int.reduceAdd, Int.reduceToNat, reduceIte, reduceCtorEq]; rfl) (by simp only [pt8, pt0, pt1, pt2, pt3, pt4, pt5, pt6, pt7]; rfl) ?_) | (refine WC.seq ?_) | (refine WC.region ?_) | (refine WO.nil ?_) | (simp only [fl1, fl2, fl3, fl4, fl5, fl6, fl7, fl8, fl9, fl10, Nat.reduceBEq]) | (refine WC.no rfl ?_) | (refine WC.exit ?_))
      exact ⟨m - 1, by omega, _, k + 1, w, rfl, rfl, rfl, rfl, rfl, by omega, hwl, fun j hj => hw1 j hj⟩
  · have hke : k = H.length := by omega
    subst hke
    have hw0 : w = [0, 0, 0, 0, 0, 0] := getD_ext (by rw [hwl]; rfl) fun t ht => by
      rw [hw t (by omega)]
      have e : remF (ent H) c (fun j => v.getD j 0) H.length t = 0 := by
        exact Int.sub_eq_zero.2 (hc t (by omega))
      rw [e]
      have : t = 0 ∨ t = 1 ∨ t = 2 ∨ t = 3 ∨ t = 4 ∨ t = 5 := by omega
      rcases this with rfl | rfl | rfl | rfl | rfl | rfl <;> rfl
    subst hw0
    repeat' (first | (refine WO.opE (by intro; simp (disch := omega) only [go_sem, Zz.look, fillP, Option.bind_eq_bind, List.append_assoc, app_g0, app_g1, app_g2, app_g3, app_g4, app_s0, app_s1, app_s2, app_s3, app_s4, zeros, List.length_append, ov_one0, ov_one1, ov_one2, ov_one3, ov_all2, ov_all3, ov_all4, Nat.reduceAdd, Nat.reduceMul, Nat.reduceSub, Nat.reduceLeDiff, Nat.reduceEqDiff, Int.reduceNeg, Int.reduceAdd, Int.reduceToNat, reduceIte, reduceCtorEq]; rfl) (by simp only [pt8, pt0, pt1, pt2, pt3, pt4, pt5, pt6, pt7]; rfl) ?_) | (refine WO.opE (by intro; exact ev_lenS (by simp only [go_sem]; first | rfl | assumption)) (by simp only [pt8, pt0, pt1, pt2, pt3, pt4, pt5, pt6, pt7]; rfl) ?_) | (refine WC.seq ?_) | (refine WC.region ?_) | (refine WO.nil ?_) | (simp only [fl1, fl2, fl3, fl4, fl5, fl6, fl7, fl8, fl9, fl10, Nat.reduceBEq]) | (refine WC.exit ?_) | (refine WC.ret ?_) | (refine WC.em2 rfl (fun hp => ?_) (fun hp => ?_) <;> try (exfalso; first | omega | contradiction)))
    exact ⟨_, rfl, rfl⟩
theorem s39 {l : AV} {H : List (List Int)} {p : Nat → Nat} {v : List Int} (hl : RwL l H) (hT : HF 6 (ent H) H.length p) (hm6 : H.length ≤ 6) (hb : Bd6 H) (h6v : v.length = 6) (hs : smallV v) (hin : RowL (ent H) H.length fun j => v.getD j 0) {m : Mem} :
    borrowE E45 39 [l, .agg (icells v)] m = some (.bool true, m) :=
  borrowE_of (pures_cons hl.pureA (pures_cons (pure_icells v) rfl)) ((f39 hl hT hm6 hb h6v hs hin).mono fun y m' h => by rw [h]; rfl)
noncomputable def E46 : Env := E45.put 39 (borrowE E45 39)
end Go.Proofs.Ytnilimjkibimcaa

