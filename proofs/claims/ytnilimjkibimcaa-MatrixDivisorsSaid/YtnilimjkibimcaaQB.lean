import Derived.Test.YtnilimjkibimcaaAbsI
import Derived.Test.YtnilimjkibimcaaPb
import Derived.Test.YtnilimjkibimcaaQa
import Derived.Test.YtnilimjkibimcaaPm
import Derived.Test.YtnilimjkibimcaaPn
set_option linter.unusedSimpArgs false
set_option linter.unusedVariables false

namespace Go.Proofs.Ytnilimjkibimcaa
open Go.Zz
set_option maxRecDepth 100000
set_option maxHeartbeats 8000000
theorem RwL.sixR {x : AV} {rows : List (List Int)} (h : RwL x rows) : SixR rows := fun r hr => by
  obtain ⟨i, hi, rfl⟩ := List.mem_iff_getElem.1 hr
  rw [← rw_lt hi]
  exact h.six hi
noncomputable def E42 : Env := E41.put 41 (borrowE E41 41)
theorem E42_ok : EnvOk Try.prog E42 := Env.put_ok E41_ok (borrowE_ok E41_ok (callable Try.func41 (by kernel_rfl)))
set_option maxRecDepth 100000
set_option maxHeartbeats 8000000
def pivF (r : List Int) : Nat := ((List.range 6).find? fun j => decide (r.getD j 0 ≠ 0)).getD 6
theorem pivF_of {r : List Int} {j : Nat} (h : ∀ t, t < j → r.getD t 0 = 0) (hj : j ≤ 6) (hr : j < 6 → r.getD j 0 ≠ 0) : pivF r = j := by
  unfold pivF
  have key : ∀ n s : Nat, s + n = 6 → s ≤ j → ((List.range' s n).find? fun j => decide (r.getD j 0 ≠ 0)).getD 6 = j := by
    intro n
    induction n with
    | zero => intro s h1 h2; simp; omega
    | succ n ih =>
      intro s h1 h2
      rw [List.range'_succ, List.find?_cons]
      by_cases e : s = j
      · subst e
        rw [decide_eq_true (hr (by omega))]
        rfl
      · rw [decide_eq_false (by rw [h s (by omega)]; simp)]
        exact ih (s + 1) (by omega) (by omega)
  rw [List.range_eq_range']
  exact key 6 0 rfl (Nat.zero_le _)
theorem f43 {r : List Int} (h6 : r.length = 6) : WF E42 (.func 43 [] []) [.agg (icells r)] ⟨[], []⟩ fun y m' => y = .int .i64 (pivF r : Nat) := by
  have hml : (icells r).length = 6 := by rw [icells_len, h6]
  refine WF.fnE rfl (fn_of Try.func43 cir43) (by show 1 ≤ 13; decide) ?_
  unfold ir43; dsimp only [k0, kI, mV, oO, oG]
  simp only [padTo, List.replicate, List.nil_append, List.append_nil, List.cons_append]
  repeat' (first | (refine WO.opE (by intro; simp (disch := omega) only [go_sem, fillP, Option.bind_eq_bind, List.append_assoc, app_g0, app_g1, app_g2, app_g3, app_g4, app_s0, app_s1, app_s2, app_s3, app_s4, zeros, List.length_append, ov_one0, ov_one1, ov_one2, ov_one3, ov_all2, ov_all3, ov_all4, Nat.reduceAdd, Nat.reduceMul, Nat.reduceSub, Nat.reduceLeDiff, Nat.reduceEqDiff, Int.reduceNeg, Int.reduceAdd, Int.reduceToNat, reduceIte, reduceCtorEq, hml]; rfl) (by simp only [pt8, pt0, pt1, pt2, pt3, pt4, pt5, pt6, pt7]; rfl) ?_) | (refine WC.seq ?_) | (refine WC.region ?_) | (refine WO.nil ?_) | (simp only [fl1, fl2, fl3, fl4, fl5, fl6, fl7, fl8, fl9, fl10, Nat.reduceBEq]) | (refine WC.block ?_))
  refine WC.loopI (fun m s => ∃ T j, s = ⟨T, [some ⟨0, icells r⟩], []⟩ ∧ T.length = 13 ∧ gt T 1 = .pref 0 0 0 ∧ gt T 3 = .int .i64 (j : Nat) ∧ m + j = 6 ∧ ∀ t, t < j → r.getD t 0 = 0) ?_ 6 _ ⟨_, 0, rfl, rfl, rfl, rfl, by omega, fun t ht => by omega⟩
  rintro m _ ⟨T, j, rfl, hT, g1, g3, hm, hz⟩
  obtain ⟨f, rfl⟩ := ex13 hT
  clear hT
  replace g1 : f 1 = .pref 0 0 0 := g1
  replace g3 : f 3 = .int .i64 (j : Nat) := g3
  simp only [g1, g3]
  by_cases hj : j < 6
  · have hat := icells_at (r := r) (j := j) (by omega)
    repeat' (first | (refine WO.opE (by intro; simp (disch := omega) only [go_sem, Zz.look, fillP, Option.bind_eq_bind, List.append_assoc, app_g0, app_g1, app_g2, app_g3, app_g4, app_s0, app_s1, app_s2, app_s3, app_s4, zeros, List.length_append, ov_one0, ov_one1, ov_one2, ov_one3, ov_all2, ov_all3, ov_all4, Nat.reduceAdd, Nat.reduceMul, Nat.reduceSub, Nat.reduceLeDiff, Nat.reduceEqDiff, Int.reduceNeg, Int.reduceAdd, Int.reduceToNat, reduceIte, reduceCtorEq, hat, Nat.mul_one, Nat.zero_add]; rfl) (by simp only [pt8, pt0, pt1, pt2, pt3, pt4, pt5, pt6, pt7]; rfl) ?_) | (refine WC.seq ?_) | (refine WC.region ?_) | (refine WO.nil ?_) | (simp only [fl1, fl2, fl3, fl4, fl5, fl6, fl7, fl8, fl9, fl10, Nat.reduceBEq]) | (refine WC.skip ?_) | (refine WC.ret ?_) | (refine WC.block ?_) | (refine WC.em2 rfl (fun hp => ?_) (fun hp => ?_) <;> try (exfalso; first | omega | contradiction)))
    · exact ⟨_, rfl, by rw [pivF_of hz (by omega) fun _ h => hp h]; rfl⟩
    · exact ⟨m - 1, by omega, _, j + 1, rfl, rfl, rfl, rfl, by omega, fun t ht => by
        by_cases e : t = j
        · subst e; exact Decidable.byContradiction fun h => hp h
        · exact hz t (by omega)⟩
  · have hje : j = 6 := by omega
    subst hje
    repeat' (first | (refine WO.opE (by intro; simp (disch := omega) only [go_sem, fillP, Option.bind_eq_bind, List.append_assoc, app_g0, app_g1, app_g2, app_g3, app_g4, app_s0, app_s1, app_s2, app_s3, app_s4, zeros, List.length_append, ov_one0, ov_one1, ov_one2, ov_one3, ov_all2, ov_all3, ov_all4, Nat.reduceAdd, Nat.reduceMul, Nat.reduceSub, Nat.reduceLeDiff, Nat.reduceEqDiff, Int.reduceNeg, Int.reduceAdd, Int.reduceToNat, reduceIte, reduceCtorEq]; rfl) (by simp only [pt8, pt0, pt1, pt2, pt3, pt4, pt5, pt6, pt7]; rfl) ?_) | (refine WC.seq ?_) | (refine WC.region ?_) | (refine WO.nil ?_) | (simp only [fl1, fl2, fl3, fl4, fl5, fl6, fl7, fl8, fl9, fl10, Nat.reduceBEq]) | (refine WC.no rfl ?_) | (refine WC.exit ?_) | (refine WC.ret ?_))
    exact ⟨_, rfl, by rw [pivF_of hz (by omega) (fun h => by omega)]; rfl⟩
set_option maxRecDepth 100000
set_option maxHeartbeats 8000000
theorem s43 {r : List Int} (h6 : r.length = 6) {m : Mem} : borrowE E42 43 [.agg (icells r)] m = some (.int .i64 (pivF r : Nat), m) :=
  borrowE_of (pures_cons (by
    show (icells r).all Zz.pureC = true
    unfold icells
    rw [List.all_map]
    exact List.all_eq_true.2 fun _ _ => rfl) rfl) ((f43 h6).mono fun y m' h => by rw [h]; rfl)
noncomputable def E43 : Env := E42.put 43 (borrowE E42 43)
theorem E43_ok : EnvOk Try.prog E43 := Env.put_ok E42_ok (borrowE_ok E42_ok (callable Try.func43 (by kernel_rfl)))
noncomputable def E44 : Env := E43.put 38 (borrowE E43 38)
theorem piv_hf {H : List (List Int)} {m : Nat} {p : Nat → Nat} (hT : HF 6 (ent H) m p) {k : Nat} (hk : k < m) : pivF (rw_ H k) = p k :=
  pivF_of (fun t ht => hT.zero k hk t ht) (by have := hT.plt k hk; omega) fun _ h => by have := hT.pos k hk; unfold ent at this; omega
noncomputable def E45 : Env := E44.put 37 (borrowE E44 37)
noncomputable def E46 : Env := E45.put 39 (borrowE E45 39)
end Go.Proofs.Ytnilimjkibimcaa

