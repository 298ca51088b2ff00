import Derived.Test.YtjbdefmhjmkifaaDoorL11A
import Derived.Test.YtjbdefmhjmkifaaDoorAbs43

set_option linter.unusedSimpArgs false
set_option linter.unusedVariables false
namespace Go.Proofs.YtjbdefmhjmkifaaDoor
open Go.Zz
set_option maxRecDepth 100000
set_option maxHeartbeats 1000000
/-! ### A set of pipes -/
def Ris (ids : List Int) : Prop := ∀ j, j < ids.length - 1 → ids.getD j 0 < ids.getD (j + 1) 0
def Has (ps : List Pipe) (ids : List Int) : Prop := ∀ j, j < ids.length → pos ps (ids.getD j 0) < ps.length
instance (ids : List Int) : Decidable (Ris ids) := by unfold Ris; infer_instance
instance (ps : List Pipe) (ids : List Int) : Decidable (Has ps ids) := by unfold Has; infer_instance
def okSet (ps : List Pipe) (sup tol : Int) (ids : List Int) (warm : Int) : Prop := VO ps sup tol ∧ (-100 ≤ warm ∧ warm ≤ 100) ∧ Ris ids ∧ Has ps ids
/-- The error of a set. -/
def setE (ps : List Pipe) (sup tol : Int) (ids : List Int) (warm : Int) : Int := if VO ps sup tol ∧ (-100 ≤ warm ∧ warm ≤ 100) ∧ Ris ids then if Has ps ids then 0 else 4 else 1
theorem setE_ok {ps : List Pipe} {sup tol : Int} {ids : List Int} {warm : Int} : setE ps sup tol ids warm = 0 ↔ okSet ps sup tol ids warm := by
  unfold setE okSet
  split
  · rename_i h
    split
    · rename_i h2; exact ⟨fun _ => ⟨h.1, h.2.1, h.2.2, h2⟩, fun _ => rfl⟩
    · rename_i h2; exact ⟨fun h => (by cases h), fun h => absurd h.2.2.2 h2⟩
  · rename_i h; exact ⟨fun h => (by cases h), fun h' => absurd ⟨h'.1, h'.2.1, h'.2.2.1⟩ h⟩
theorem VO.id_ge {ps : List Pipe} {sup tol : Int} (h : VO ps sup tol) : ∀ i : Nat, i < ps.length → (i : Int) + 1 ≤ (nth ps i).id
  | 0, hi => by have := (h.1 0 hi).1; simp only [lastId, if_true] at this; omega
  | i + 1, hi => by
    have ih := h.id_ge i (by omega)
    have := (h.1 (i + 1) hi).1
    simp only [lastId, Nat.add_sub_cancel, if_neg (Nat.succ_ne_zero i)] at this
    omega
theorem VO.id_of {ps : List Pipe} {sup tol : Int} (h : VO ps sup tol) {id : Int} (hp : pos ps id < ps.length) : 1 ≤ id ∧ id ≤ 1000 := by
  have h1 := pos_at hp
  have h2 := h.id_ge _ hp
  have h3 := (h.1 _ hp).2.1
  omega
theorem ris_len {ps : List Pipe} {sup tol : Int} {ids : List Int} (h : VO ps sup tol) (hr : Ris ids) (hh : Has ps ids) : ids.length ≤ 1000 := by
  have key : ∀ j : Nat, j < ids.length → (j : Int) + 1 ≤ ids.getD j 0 := by
    intro j
    induction j with
    | zero => intro hj; have := (h.id_of (hh 0 hj)).1; omega
    | succ j ih =>
      intro hj
      have h1 := ih (by omega)
      have h2 := hr j (by omega)
      omega
  by_cases h0 : ids.length = 0
  · omega
  · have h1 := key (ids.length - 1) (by omega)
    have h2 := (h.id_of (hh (ids.length - 1) (by omega))).2
    omega

theorem res5t {H : Hp} {pv iv : AV} {a b c e : Int} (h1 : Zz.resC H pv = some pv) (h2 : Zz.resC H iv = some iv) : resV H (.tuple [.agg [pv, .int .i64 a, .int .i64 b, iv, .int .i64 c], .int .i64 e]) = some (.tuple [.agg [pv, .int .i64 a, .int .i64 b, iv, .int .i64 c], .int .i64 e]) := by
  simp only [resV, resT, resA, resL, h1, h2, resC_int]
theorem f38 {pv iv : AV} {ps : List Pipe} {ids : List Int} {sup tol warm : Int} (hq : PpL pv ps) (hmax : ps.length < 9223372036854775807) (hiv : IntS iv ids) (himax : ids.length < 9223372036854775807) :
    WF E9 (.func 38 [] []) [.agg [pv, .int .i64 sup, .int .i64 tol], iv, .int .i64 warm] ⟨[], []⟩ fun y m' => resV m'.heap y = some (.tuple [if setE ps sup tol ids warm = 0 then .agg [pv, .int .i64 sup, .int .i64 tol, iv, .int .i64 (max 0 (dem ps ids - sup))] else .agg [.snil, .int .i64 0, .int .i64 0, .snil, .int .i64 0], .int .i64 (setE ps sup tol ids warm)]) := by
  have hlen := hq.len
  have hil := hiv.len
  have hcell := SL.cells hq
  have hic := hiv.cells
  refine WF.fnE rfl (fn_of Tryd.func38 cir38) (by show 3 ≤ 58; decide) ?_
  unfold ir38
  simp only [padTo, List.replicate, List.nil_append, List.append_nil, List.cons_append]
  repeat' (first | (refine WO.yes rfl ?_) | (refine WO.noE rfl (by simp only [pt8, pt0, pt1, pt2, pt3, pt4, pt5, pt6, pt7]; rfl) ?_) | (refine WO.opE (by intro; simp (disch := omega) only [go_sem, Zz.look, Zz.over, Zz.cut, Nat.reduceAdd, Nat.reduceMul, Nat.reduceSub, Nat.reduceLeDiff, Nat.reduceEqDiff, Int.reduceNeg, Int.reduceAdd, Int.reduceToNat, reduceIte, reduceCtorEq, fillP, over5]; rfl) (by simp only [pt8, pt0, pt1, pt2, pt3, pt4, pt5, pt6, pt7]; rfl) ?_) | (refine WO.opN (by intro; simp (disch := omega) only [go_sem, Zz.look, Zz.over, Zz.cut, Nat.reduceAdd, Nat.reduceMul, Nat.reduceSub, Nat.reduceLeDiff, Nat.reduceEqDiff, Int.reduceNeg, Int.reduceAdd, Int.reduceToNat, reduceIte, reduceCtorEq, fillP, over5]; rfl) ?_) | (refine WO.specE rfl rfl (s14 hq hmax) (by simp only [pt8, pt0, pt1, pt2, pt3, pt4, pt5, pt6, pt7]; rfl) ?_) | (refine WO.specE rfl rfl (s45) (by simp only [pt8, pt0, pt1, pt2, pt3, pt4, pt5, pt6, pt7]; rfl) ?_) | (refine WC.seq ?_) | (refine WC.region ?_) | (refine WO.nil ?_) | (simp only [fl1, fl2, fl3, fl4, fl5, fl6, fl7, fl8, fl9, fl10, Nat.reduceBEq]) | (refine WC.yes rfl ?_) | (refine WC.skip ?_) | (refine WC.ret ?_) | (refine WC.block ?_) | (refine WO.em2 rfl (by intro hp; simp only [hp, decide_true]; rfl) (by intro hp; simp only [hp, decide_false]; rfl) (fun hp => ?_) (fun hp => ?_) <;> try (exfalso; first | omega | contradiction)) | (refine WC.em2 rfl (fun hp => ?_) (fun hp => ?_) <;> try (exfalso; first | omega | contradiction)))
  · have e : setE ps sup tol ids warm = 1 := if_neg fun h => hp h.1
    refine ⟨_, rfl, ?_⟩
    rw [e]
    rfl
  · have e : setE ps sup tol ids warm = 1 := if_neg fun h => hp h.2.1
    refine ⟨_, rfl, ?_⟩
    rw [e]
    rfl
  have hv := Decidable.of_not_not ‹¬¬VO ps sup tol›
  have hw := Decidable.of_not_not hp
  refine WC.loopI (fun m s => ∃ T i, s = ⟨T, [some ⟨0, [pv, .int .i64 sup, .int .i64 tol]⟩, some ⟨0, [.snil, .int .i64 0, .int .i64 0, .snil, .int .i64 0]⟩], []⟩ ∧ T.length = 58 ∧ gt T 1 = iv ∧ gt T 3 = .pref 0 0 0 ∧ gt T 6 = .pref 1 0 0 ∧ gt T 8 = .int .i64 (i : Nat) ∧ 1 ≤ i ∧ m + i = ids.length + 1 ∧ ∀ j, j + 1 < i → ids.getD j 0 < ids.getD (j + 1) 0) ?_ ids.length _ ⟨_, 1, rfl, rfl, rfl, rfl, rfl, rfl, by omega, by omega, fun j hj => by omega⟩
  rintro m _ ⟨T, i, rfl, hT, g1, g3, g6, g8, hi1, hm, hi⟩
  obtain ⟨f, rfl⟩ := ex58 hT
  clear hT
  replace g1 : f 1 = iv := g1
  replace g3 : f 3 = .pref 0 0 0 := g3
  replace g6 : f 6 = .pref 1 0 0 := g6
  replace g8 : f 8 = .int .i64 (i : Nat) := g8
  simp only [g1, g3, g6, g8]
  by_cases hin : i < ids.length
  · have e1 : ((i : Int) - 1).toNat = i - 1 := by omega
    repeat' (first | (refine WO.opE (by intro; simp (disch := omega) only [go_sem, Zz.look, Zz.over, Zz.cut, Nat.reduceAdd, Nat.reduceMul, Nat.reduceSub, Nat.reduceLeDiff, Nat.reduceEqDiff, Int.reduceNeg, Int.reduceAdd, Int.reduceToNat, reduceIte, reduceCtorEq, hiv.atI, fillP, over5, e1]; rfl) (by simp only [pt8, pt0, pt1, pt2, pt3, pt4, pt5, pt6, pt7]; rfl) ?_) | (refine WO.opN (by intro; simp (disch := omega) only [go_sem, Zz.look, Zz.over, Zz.cut, Nat.reduceAdd, Nat.reduceMul, Nat.reduceSub, Nat.reduceLeDiff, Nat.reduceEqDiff, Int.reduceNeg, Int.reduceAdd, Int.reduceToNat, reduceIte, reduceCtorEq, hiv.atI, fillP, over5, e1]; rfl) ?_) | (refine WO.opE (by intro; exact ev_lenS (by simp only [go_sem]; first | rfl | assumption)) (by simp only [pt8, pt0, pt1, pt2, pt3, pt4, pt5, pt6, pt7]; rfl) ?_) | (refine WC.seq ?_) | (refine WC.region ?_) | (refine WO.nil ?_) | (simp only [fl1, fl2, fl3, fl4, fl5, fl6, fl7, fl8, fl9, fl10, Nat.reduceBEq]) | (refine WC.calm rfl ?_) | (refine WC.skip ?_) | (refine WC.ret ?_) | (refine WC.block ?_) | (refine WC.em2 rfl (fun hp => ?_) (fun hp => ?_) <;> try (exfalso; first | omega | contradiction)))
    · have e : setE ps sup tol ids warm = 1 := if_neg fun h => by
        have := h.2.2 (i - 1) (by omega)
        rw [show i - 1 + 1 = i by omega] at this
        omega
      refine ⟨_, rfl, ?_⟩
      rw [e]
      rfl
    · exact ⟨m - 1, by omega, _, i + 1, rfl, rfl, rfl, rfl, rfl, rfl, by omega, by omega, fun j hj => by
        by_cases ej : j + 1 = i
        · have : j = i - 1 := by omega
          subst this
          rw [show i - 1 + 1 = i by omega]
          omega
        · exact hi j (by omega)⟩
  · have hr : Ris ids := fun j hj => hi j (by omega)
    repeat' (first | (refine WO.opE (by intro; simp (disch := omega) only [go_sem, Zz.look, Zz.over, Zz.cut, Nat.reduceAdd, Nat.reduceMul, Nat.reduceSub, Nat.reduceLeDiff, Nat.reduceEqDiff, Int.reduceNeg, Int.reduceAdd, Int.reduceToNat, reduceIte, reduceCtorEq, fillP, over5]; rfl) (by simp only [pt8, pt0, pt1, pt2, pt3, pt4, pt5, pt6, pt7]; rfl) ?_) | (refine WO.opE (by intro; exact ev_lenS (by simp only [go_sem]; first | rfl | assumption)) (by simp only [pt8, pt0, pt1, pt2, pt3, pt4, pt5, pt6, pt7]; rfl) ?_) | (refine WC.seq ?_) | (refine WC.region ?_) | (refine WO.nil ?_) | (simp only [fl1, fl2, fl3, fl4, fl5, fl6, fl7, fl8, fl9, fl10, Nat.reduceBEq]) | (refine WC.exit ?_) | (refine WC.block ?_) | (refine WC.em2 rfl (fun hp => ?_) (fun hp => ?_) <;> try (exfalso; first | omega | contradiction)))
    refine WC.loopI (fun m s => ∃ T R i, s = ⟨T, some ⟨0, [pv, .int .i64 sup, .int .i64 tol]⟩ :: some ⟨0, [.snil, .int .i64 0, .int .i64 0, .snil, .int .i64 0]⟩ :: R, []⟩ ∧ T.length = 58 ∧ gt T 1 = iv ∧ gt T 3 = .pref 0 0 0 ∧ gt T 6 = .pref 1 0 0 ∧ gt T 39 = iv ∧ gt T 40 = .int .i64 (ids.length : Nat) ∧ gt T 41 = .int .i64 (i : Nat) ∧ m + i = ids.length ∧ ∀ j, j < i → pos ps (ids.getD j 0) < ps.length) ?_ ids.length _ ⟨_, [], 0, rfl, rfl, rfl, rfl, rfl, rfl, rfl, rfl, by omega, fun j hj => by omega⟩
    clear hp
    clear g1 g3 g6 g8 f hi1 hm hi hin i m
    rintro m _ ⟨T, R, i, rfl, hT, g1, g3, g6, g39, g40, g41, hm, hi⟩
    obtain ⟨f, rfl⟩ := ex58 hT
    clear hT
    replace g1 : f 1 = iv := g1
    replace g3 : f 3 = .pref 0 0 0 := g3
    replace g6 : f 6 = .pref 1 0 0 := g6
    replace g39 : f 39 = iv := g39
    replace g40 : f 40 = .int .i64 (ids.length : Nat) := g40
    replace g41 : f 41 = .int .i64 (i : Nat) := g41
    simp only [g1, g3, g6, g39, g40, g41]
    by_cases hin : i < ids.length
    · by_cases hps : pos ps (ids.getD i 0) < ps.length
      repeat' (first | (refine WO.opE (by intro; simp (disch := omega) only [go_sem, zeros, Zz.look, List.append_assoc, List.length_append, Nat.reduceAdd, Nat.reduceMul, Nat.reduceSub, Nat.reduceLeDiff, Nat.reduceEqDiff, Int.reduceNeg, Int.reduceAdd, Int.reduceToNat, reduceIte, reduceCtorEq, hiv.atI, fillP, over5, Pipe.cells, over10, cut10, app_g0, app_g1, app_g2, app_g3, app_g4, app_s0, app_s1, app_s2, app_s3, app_s4]; rfl) (by simp only [pt8, pt0, pt1, pt2, pt3, pt4, pt5, pt6, pt7]; rfl) ?_) | (refine WO.opN (by intro; simp (disch := omega) only [go_sem, zeros, Zz.look, List.append_assoc, List.length_append, Nat.reduceAdd, Nat.reduceMul, Nat.reduceSub, Nat.reduceLeDiff, Nat.reduceEqDiff, Int.reduceNeg, Int.reduceAdd, Int.reduceToNat, reduceIte, reduceCtorEq, hiv.atI, fillP, over5, Pipe.cells, over10, cut10, app_g0, app_g1, app_g2, app_g3, app_g4, app_s0, app_s1, app_s2, app_s3, app_s4]; rfl) ?_) | (refine WO.specE rfl rfl (s43 hq hmax) (by simp only [pt8, pt0, pt1, pt2, pt3, pt4, pt5, pt6, pt7]; rfl) ?_) | (refine WC.seq ?_) | (refine WC.region ?_) | (refine WO.nil ?_) | (simp only [fl1, fl2, fl3, fl4, fl5, fl6, fl7, fl8, fl9, fl10, Nat.reduceBEq]) | (refine WC.skip ?_) | (refine WC.ret ?_) | (refine WC.block ?_) | (refine WC.em2 rfl (fun hp => ?_) (fun hp => ?_) <;> try (exfalso; first | omega | contradiction)))
      · exact ⟨m - 1, by omega, _, _, i + 1, rfl, rfl, rfl, rfl, rfl, rfl, rfl, rfl, by omega, fun j hj => by
          by_cases e : j = i
          · subst e; exact hps
          · exact hi j (by omega)⟩
      · have e : setE ps sup tol ids warm = 4 := by
          unfold setE
          rw [if_pos ⟨hv, hw, hr⟩, if_neg fun h => hps (h i hin)]
        refine ⟨_, rfl, ?_⟩
        rw [e]
        rfl
    · have hh : Has ps ids := fun j hj => hi j (by omega)
      have hl := ris_len hv hr hh
      have e : setE ps sup tol ids warm = 0 := setE_ok.2 ⟨hv, hw, hr, hh⟩
      repeat' (first | (refine WO.opE (by intro; simp (disch := omega) only [go_sem, zeros, Zz.look, List.append_assoc, List.length_append, Nat.reduceAdd, Nat.reduceMul, Nat.reduceSub, Nat.reduceLeDiff, Nat.reduceEqDiff, Int.reduceNeg, Int.reduceAdd, Int.reduceToNat, reduceIte, reduceCtorEq, hiv.atI, fillP, over5, Pipe.cells, over10, cut10, app_g0, app_g1, app_g2, app_g3, app_g4, app_s0, app_s1, app_s2, app_s3, app_s4]; rfl) (by simp only [pt8, pt0, pt1, pt2, pt3, pt4, pt5, pt6, pt7]; rfl) ?_) | (refine WO.opN (by intro; simp (disch := omega) only [go_sem, zeros, Zz.look, List.append_assoc, List.length_append, Nat.reduceAdd, Nat.reduceMul, Nat.reduceSub, Nat.reduceLeDiff, Nat.reduceEqDiff, Int.reduceNeg, Int.reduceAdd, Int.reduceToNat, reduceIte, reduceCtorEq, hiv.atI, fillP, over5, Pipe.cells, over10, cut10, app_g0, app_g1, app_g2, app_g3, app_g4, app_s0, app_s1, app_s2, app_s3, app_s4]; rfl) ?_) | (refine WO.specE rfl rfl (s46 hq hmax hiv hv (by omega)) (by simp only [pt8, pt0, pt1, pt2, pt3, pt4, pt5, pt6, pt7]; rfl) ?_) | (refine WC.seq ?_) | (refine WC.region ?_) | (refine WO.nil ?_) | (simp only [fl1, fl2, fl3, fl4, fl5, fl6, fl7, fl8, fl9, fl10, Nat.reduceBEq]) | (refine WC.exit ?_) | (refine WC.ret ?_) | (refine WC.em2 rfl (fun hp => ?_) (fun hp => ?_) <;> try (exfalso; first | omega | contradiction)))
      refine ⟨_, rfl, ?_⟩
      rw [e]
      exact res5t (ppL_resC hq _) (hiv.resC _)
theorem s38 {pv iv : AV} {ps : List Pipe} {ids : List Int} {sup tol warm : Int} (hq : PpL pv ps) (hmax : ps.length < 9223372036854775807) (hiv : IntS iv ids) (himax : ids.length < 9223372036854775807) {m : Mem} :
    borrowE E9 38 [.agg [pv, .int .i64 sup, .int .i64 tol], iv, .int .i64 warm] m = some (.tuple [if setE ps sup tol ids warm = 0 then .agg [pv, .int .i64 sup, .int .i64 tol, iv, .int .i64 (max 0 (dem ps ids - sup))] else .agg [.snil, .int .i64 0, .int .i64 0, .snil, .int .i64 0], .int .i64 (setE ps sup tol ids warm)], m) :=
  borrowE_of (pures_cons (pure3 hq.pureC) (pures_cons hiv.pureA (pures_cons rfl rfl))) (f38 hq hmax hiv himax)

noncomputable def E10 : Env := E9.put 38 (borrowE E9 38)
theorem E10_ok : EnvOk Tryd.prog E10 := Env.put_ok E9_ok (borrowE_ok E9_ok (callable Tryd.func38 (by kernel_rfl)))

/-! ### Demand -/
theorem f13 {pv iv : AV} {ps : List Pipe} {ids : List Int} {sup tol : Int} (hq : PpL pv ps) (hmax : ps.length < 9223372036854775807) (hiv : IntS iv ids) (himax : ids.length < 9223372036854775807) :
    WF E10 (.func 13 [] []) [.agg [pv, .int .i64 sup, .int .i64 tol], iv] ⟨[], []⟩ fun y m' => y = .tuple [.int .i64 (if setE ps sup tol ids 0 = 0 then dem ps ids else 0), .int .i64 (setE ps sup tol ids 0)] := by
  have hic := hiv.cells
  have h38 := fun m => s38 (sup := sup) (tol := tol) (warm := 0) hq hmax hiv himax (m := m)
  generalize he : setE ps sup tol ids 0 = e at *
  by_cases h0 : e = 0
  · subst h0
    simp only [if_true] at h38 ⊢
    obtain ⟨hv, _, hr, hh⟩ := setE_ok.1 he
    have hl := ris_len hv hr hh
    have hb := demN_bnd hv ids
    have hic2 := hic
    unfold AV.cells at hic2
    refine WF.fnE rfl (fn_of Tryd.func13 cir13) (by show 2 ≤ 28; decide) ?_
    unfold ir13
    simp only [padTo, List.replicate, List.nil_append, List.append_nil, List.cons_append]
    repeat' (first | (refine WO.opE (by intro; simp (disch := omega) only [go_sem, zeros, Zz.cut, List.append_assoc, List.length_append, Zz.look, ov_one0, Nat.reduceAdd, Nat.reduceMul, Nat.reduceSub, Nat.reduceLeDiff, Nat.reduceEqDiff, Int.reduceNeg, Int.reduceAdd, Int.reduceToNat, reduceIte, reduceCtorEq, List.map_cons, List.map_nil, over5]; rfl) (by simp only [pt8, pt0, pt1, pt2, pt3, pt4, pt5, pt6, pt7]; rfl) ?_) | (refine WO.opN (by intro; simp (disch := omega) only [go_sem, zeros, Zz.cut, List.append_assoc, List.length_append, Zz.look, ov_one0, Nat.reduceAdd, Nat.reduceMul, Nat.reduceSub, Nat.reduceLeDiff, Nat.reduceEqDiff, Int.reduceNeg, Int.reduceAdd, Int.reduceToNat, reduceIte, reduceCtorEq, List.map_cons, List.map_nil, over5]; rfl) ?_) | (refine WO.specE rfl rfl (h38 _) (by simp only [pt8, pt0, pt1, pt2, pt3, pt4, pt5, pt6, pt7]; rfl) ?_) | (refine WO.callE rfl rfl (f39 (E := E10) rfl (fn_of Tryd.func39 cir39) (iv := iv) hic rfl) (by simp only [pt8, pt0, pt1, pt2, pt3, pt4, pt5, pt6, pt7]; rfl) ?_) | (refine WC.seq ?_) | (refine WC.region ?_) | (refine WO.nil ?_) | (simp only [fl1, fl2, fl3, fl4, fl5, fl6, fl7, fl8, fl9, fl10, Nat.reduceBEq]) | (refine WC.no rfl ?_) | (refine WC.skip ?_) | (refine WC.block ?_))
    refine WC.rangeFuncN rfl ((f70 (E := E10) (sup := sup) (tol := tol) (qi := 4) (qo := 3) (iv := iv) (ids := ids) rfl (fn_of Tryd.func70 cir70) rfl hq hmax (by omega) (fun i H => ∃ R, H = some ⟨0, [pv, .int .i64 sup, .int .i64 tol]⟩ :: some ⟨0, [pv, .int .i64 sup, .int .i64 tol, iv, .int .i64 (max 0 (dem ps ids - sup))]⟩ :: some ⟨0, [.int .i64 (demN ps ids i)]⟩ :: some ⟨0, [pv, .int .i64 sup, .int .i64 tol]⟩ :: some ⟨0, [iv]⟩ :: R) (fun _ => False) ⟨[], rfl⟩ ?_ ?_ ?_ ?_).mono ?_)
    · rintro i H ⟨R, rfl⟩
      exact ⟨intS_rd hiv _, rfl, rfl⟩
    · rintro i H b ⟨R, rfl⟩
      exact ⟨R ++ [b], rfl⟩
    · rintro i H hi1 hi2 ⟨R, rfl⟩
      rw [demN_skip hi1 hi2]
      exact ⟨R, rfl⟩
    · rintro i H hi1 hi2 ⟨R, rfl⟩
      have b1 := hb i (by omega)
      have b2 := hb (i + 1) (by omega)
      rw [demN_succ hi1] at b2
      refine WF.yieldN rfl rfl ?_
      generalize hL1 : ([] ++ [_] : List (Option ALoop)).set _ _ = L1
      clear hL1
      simp only [setAll, pt8, pt0, pt1, pt2, pt3, pt4, pt5, pt6, pt7]
      repeat' (first | (refine WO.opE (by intro; simp (disch := omega) only [go_sem, zeros, Zz.look, List.append_assoc, List.length_append, ov_one0, Nat.reduceAdd, Nat.reduceMul, Nat.reduceSub, Nat.reduceLeDiff, Nat.reduceEqDiff, Int.reduceNeg, Int.reduceAdd, Int.reduceToNat, reduceIte, reduceCtorEq, Pipe.cells, over10, app_g0, app_g1, app_g2, app_g3, app_g4, app_s0, app_s1, app_s2, app_s3, app_s4]; rfl) (by simp only [pt8, pt0, pt1, pt2, pt3, pt4, pt5, pt6, pt7]; rfl) ?_) | (refine WO.opN (by intro; simp (disch := omega) only [go_sem, zeros, Zz.look, List.append_assoc, List.length_append, ov_one0, Nat.reduceAdd, Nat.reduceMul, Nat.reduceSub, Nat.reduceLeDiff, Nat.reduceEqDiff, Int.reduceNeg, Int.reduceAdd, Int.reduceToNat, reduceIte, reduceCtorEq, Pipe.cells, over10, app_g0, app_g1, app_g2, app_g3, app_g4, app_s0, app_s1, app_s2, app_s3, app_s4]; rfl) ?_) | (refine WC.region ?_) | (refine WO.nil ?_) | (simp only [fl1, fl2, fl3, fl4, fl5, fl6, fl7, fl8, fl9, fl10, Nat.reduceBEq]))
      refine ⟨trivial, rfl, ?_⟩
      repeat' (first | (refine WO.opE (by intro; simp (disch := omega) only [go_sem, zeros, Zz.look, List.append_assoc, List.length_append, ov_one0, Nat.reduceAdd, Nat.reduceMul, Nat.reduceSub, Nat.reduceLeDiff, Nat.reduceEqDiff, Int.reduceNeg, Int.reduceAdd, Int.reduceToNat, reduceIte, reduceCtorEq, Pipe.cells, over10, app_g0, app_g1, app_g2, app_g3, app_g4, app_s0, app_s1, app_s2, app_s3, app_s4]; rfl) (by simp only [pt8, pt0, pt1, pt2, pt3, pt4, pt5, pt6, pt7]; rfl) ?_) | (refine WO.opN (by intro; simp (disch := omega) only [go_sem, zeros, Zz.look, List.append_assoc, List.length_append, ov_one0, Nat.reduceAdd, Nat.reduceMul, Nat.reduceSub, Nat.reduceLeDiff, Nat.reduceEqDiff, Int.reduceNeg, Int.reduceAdd, Int.reduceToNat, reduceIte, reduceCtorEq, Pipe.cells, over10, app_g0, app_g1, app_g2, app_g3, app_g4, app_s0, app_s1, app_s2, app_s3, app_s4]; rfl) ?_) | (refine WC.region ?_) | (refine WO.nil ?_) | (simp only [fl1, fl2, fl3, fl4, fl5, fl6, fl7, fl8, fl9, fl10, Nat.reduceBEq]) | (refine WC.block ?_))
      exact ⟨trivial, by first | rfl | trivial, .inl ⟨trivial, by first | rfl | trivial, R ++ [_], by rw [demN_succ hi1]⟩⟩
    · rintro v m' (⟨h1, R, h2⟩ | h)
      · refine ⟨h1, ?_⟩
        rw [h2]
        have e : demN ps ids ids.length = dem ps ids := rfl
        rw [e]
        repeat' (first | (refine WO.opE (by intro; simp (disch := omega) only [go_sem, zeros, Zz.look, List.append_assoc, List.length_append, ov_one0, Nat.reduceAdd, Nat.reduceMul, Nat.reduceSub, Nat.reduceLeDiff, Nat.reduceEqDiff, Int.reduceNeg, Int.reduceAdd, Int.reduceToNat, reduceIte, reduceCtorEq, fillP, over5]; rfl) (by simp only [pt8, pt0, pt1, pt2, pt3, pt4, pt5, pt6, pt7]; rfl) ?_) | (refine WC.seq ?_) | (refine WC.region ?_) | (refine WO.nil ?_) | (simp only [fl1, fl2, fl3, fl4, fl5, fl6, fl7, fl8, fl9, fl10, Nat.reduceBEq]) | (refine WC.ret ?_))
        exact ⟨_, rfl, rfl⟩
      · exact h.elim
  · simp only [if_neg h0] at h38 ⊢
    refine WF.fnE rfl (fn_of Tryd.func13 cir13) (by show 2 ≤ 28; decide) ?_
    unfold ir13
    simp only [padTo, List.replicate, List.nil_append, List.append_nil, List.cons_append]
    repeat' (first | (refine WO.opE (by intro; simp (disch := omega) only [go_sem, zeros, Zz.cut, List.append_assoc, List.length_append, Zz.look, Nat.reduceAdd, Nat.reduceMul, Nat.reduceSub, Nat.reduceLeDiff, Nat.reduceEqDiff, Int.reduceNeg, Int.reduceAdd, Int.reduceToNat, reduceIte, reduceCtorEq, List.map_cons, List.map_nil, over5]; rfl) (by simp only [pt8, pt0, pt1, pt2, pt3, pt4, pt5, pt6, pt7]; rfl) ?_) | (refine WO.opN (by intro; simp (disch := omega) only [go_sem, zeros, Zz.cut, List.append_assoc, List.length_append, Zz.look, Nat.reduceAdd, Nat.reduceMul, Nat.reduceSub, Nat.reduceLeDiff, Nat.reduceEqDiff, Int.reduceNeg, Int.reduceAdd, Int.reduceToNat, reduceIte, reduceCtorEq, List.map_cons, List.map_nil, over5]; rfl) ?_) | (refine WO.specE rfl rfl (h38 _) (by simp only [pt8, pt0, pt1, pt2, pt3, pt4, pt5, pt6, pt7]; rfl) ?_) | (refine WC.seq ?_) | (refine WC.region ?_) | (refine WO.nil ?_) | (simp only [fl1, fl2, fl3, fl4, fl5, fl6, fl7, fl8, fl9, fl10, Nat.reduceBEq]) | (refine WC.ret ?_) | (refine WC.em2 rfl (fun hp => ?_) (fun hp => ?_) <;> try (exfalso; first | omega | contradiction)))
    exact ⟨_, rfl, rfl⟩
theorem s13 {pv iv iv' : AV} {ps : List Pipe} {ids : List Int} {sup tol : Int} (hq : PpL pv ps) (hmax : ps.length < 9223372036854775807) (hiv : IntS iv ids) (himax : ids.length < 9223372036854775807) {m : Mem} (h : Zz.byVal m.heap iv' = some iv) :
    borrowX E10 13 [.agg [pv, .int .i64 sup, .int .i64 tol], iv'] m = some (.tuple [.int .i64 (if setE ps sup tol ids 0 = 0 then dem ps ids else 0), .int .i64 (setE ps sup tol ids 0)], m) :=
  borrowX_of (byVals_cons (byO hq) (byVals_cons h rfl)) ((f13 hq hmax hiv himax).mono fun y m' h => by rw [h]; rfl)

noncomputable def E11 : Env := E10.put 13 (borrowX E10 13)
theorem E11_ok : EnvOk Tryd.prog E11 := Env.put_ok E10_ok (borrowX_ok E10_ok (callable Tryd.func13 (by kernel_rfl)))

/-! ### Contains -/
theorem f72 {iv : AV} {ids : List Int} {v : Int} (hiv : IntS iv ids) (himax : ids.length < 9223372036854775807) : WF E11 (.func 72 [] []) [iv, .int .i64 v] ⟨[], []⟩ fun y m' => ∃ k : Int, y = .int .i64 k ∧ (0 ≤ k ↔ v ∈ ids) := by
  have hil := hiv.len
  refine WF.fnE rfl (fn_of Tryd.func72 cir72) (by show 2 ≤ 19; decide) ?_
  unfold ir72
  simp only [padTo, List.replicate, List.nil_append, List.append_nil, List.cons_append]
  repeat' (first | (refine WO.opE (by intro; simp (disch := omega) only [go_sem, Zz.look, Zz.over, Zz.cut, Nat.reduceAdd, Nat.reduceMul, Nat.reduceSub, Nat.reduceLeDiff, Nat.reduceEqDiff, Int.reduceNeg, Int.reduceAdd, Int.reduceToNat, reduceIte, reduceCtorEq]; rfl) (by simp only [pt8, pt0, pt1, pt2, pt3, pt4, pt5, pt6, pt7]; rfl) ?_) | (refine WO.opE (by intro; exact ev_lenS (by simp only [go_sem]; first | rfl | assumption)) (by simp only [pt8, pt0, pt1, pt2, pt3, pt4, pt5, pt6, pt7]; rfl) ?_) | (refine WC.seq ?_) | (refine WC.region ?_) | (refine WO.nil ?_) | (simp only [fl1, fl2, fl3, fl4, fl5, fl6, fl7, fl8, fl9, fl10, Nat.reduceBEq]) | (refine WC.block ?_))
  refine WC.loopI (fun m s => ∃ T i, s = ⟨T, [], []⟩ ∧ T.length = 19 ∧ gt T 0 = iv ∧ gt T 1 = .int .i64 v ∧ gt T 7 = .int .i64 (ids.length : Nat) ∧ gt T 8 = .int .i64 (i : Nat) ∧ m + i = ids.length ∧ ∀ j, j < i → ids.getD j 0 ≠ v) ?_ ids.length _ ⟨_, 0, rfl, rfl, rfl, rfl, rfl, rfl, by omega, fun j hj => by omega⟩
  rintro m _ ⟨T, i, rfl, hT, g0, g1, g7, g8, hm, hi⟩
  obtain ⟨f, rfl⟩ := ex19 hT
  clear hT
  replace g0 : f 0 = iv := g0
  replace g1 : f 1 = .int .i64 v := g1
  replace g7 : f 7 = .int .i64 (ids.length : Nat) := g7
  replace g8 : f 8 = .int .i64 (i : Nat) := g8
  simp only [g0, g1, g7, g8]
  by_cases hin : i < ids.length
  · have hmem : ids.getD i 0 ∈ ids := by rw [List.getD_eq_getElem?_getD, List.getElem?_eq_getElem hin]; exact List.getElem_mem hin
    repeat' (first | (refine WO.opE (by intro; simp (disch := omega) only [go_sem, Zz.look, Zz.over, Zz.cut, Nat.reduceAdd, Nat.reduceMul, Nat.reduceSub, Nat.reduceLeDiff, Nat.reduceEqDiff, Int.reduceNeg, Int.reduceAdd, Int.reduceToNat, reduceIte, reduceCtorEq, hiv.atI]; rfl) (by simp only [pt8, pt0, pt1, pt2, pt3, pt4, pt5, pt6, pt7]; rfl) ?_) | (refine WC.seq ?_) | (refine WC.region ?_) | (refine WO.nil ?_) | (simp only [fl1, fl2, fl3, fl4, fl5, fl6, fl7, fl8, fl9, fl10, Nat.reduceBEq]) | (refine WC.skip ?_) | (refine WC.ret ?_) | (refine WC.block ?_) | (refine WC.em2 rfl (fun hp => ?_) (fun hp => ?_) <;> try (exfalso; first | omega | contradiction)))
    · exact ⟨_, rfl, (i : Nat), rfl, ⟨fun _ => by rw [hp]; exact hmem, fun _ => by omega⟩⟩
    · exact ⟨m - 1, by omega, _, i + 1, rfl, rfl, rfl, rfl, rfl, rfl, by omega, fun j hj => by
        by_cases e : j = i
        · subst e; exact fun h => hp h.symm
        · exact hi j (by omega)⟩
  · have hi' : i = ids.length := by omega
    subst hi'
    repeat' (first | (refine WO.opE (by intro; simp (disch := omega) only [go_sem, Zz.look, Zz.over, Zz.cut, Nat.reduceAdd, Nat.reduceMul, Nat.reduceSub, Nat.reduceLeDiff, Nat.reduceEqDiff, Int.reduceNeg, Int.reduceAdd, Int.reduceToNat, reduceIte, reduceCtorEq]; rfl) (by simp only [pt8, pt0, pt1, pt2, pt3, pt4, pt5, pt6, pt7]; rfl) ?_) | (refine WC.seq ?_) | (refine WC.region ?_) | (refine WO.nil ?_) | (simp only [fl1, fl2, fl3, fl4, fl5, fl6, fl7, fl8, fl9, fl10, Nat.reduceBEq]) | (refine WC.exit ?_) | (refine WC.ret ?_) | (refine WC.em2 rfl (fun hp => ?_) (fun hp => ?_) <;> try (exfalso; first | omega | contradiction)))
    refine ⟨_, rfl, -1, rfl, ⟨fun h => by omega, fun h => ?_⟩⟩
    obtain ⟨j, hj, e⟩ := List.getElem_of_mem h
    exact absurd (by rw [List.getD_eq_getElem?_getD, List.getElem?_eq_getElem hj]; exact e) (hi j hj)
theorem s72 {iv : AV} {ids : List Int} {v : Int} (hiv : IntS iv ids) (himax : ids.length < 9223372036854775807) : ∃ k : Int, (0 ≤ k ↔ v ∈ ids) ∧ ∀ m, borrowE E11 72 [iv, .int .i64 v] m = some (.int .i64 k, m) := by
  obtain ⟨n, y, m', h, k, rfl, hk⟩ := (f72 (v := v) hiv himax).ex
  exact ⟨k, hk, fun m => borrowE_of (pures_cons hiv.pureA (pures_cons rfl rfl)) ⟨⟨n, _, m', h, rfl⟩⟩⟩

noncomputable def E12 : Env := E11.put 72 (borrowE E11 72)
theorem E12_ok : EnvOk Tryd.prog E12 := Env.put_ok E11_ok (borrowE_ok E11_ok (callable Tryd.func72 (by kernel_rfl)))
theorem f42 {iv : AV} {ids : List Int} {v : Int} (hiv : IntS iv ids) (himax : ids.length < 9223372036854775807) : WF E12 (.func 42 [] []) [iv, .int .i64 v] ⟨[], []⟩ fun y m' => y = .bool (decide (v ∈ ids)) := by
  obtain ⟨k, hk, h⟩ := s72 (v := v) hiv himax
  refine WF.fnE rfl (fn_of Tryd.func42 cir42) (by show 2 ≤ 9; decide) ?_
  unfold ir42
  simp only [padTo, List.replicate, List.nil_append, List.append_nil, List.cons_append]
  repeat' (first | (refine WO.opE (by intro; simp (disch := omega) only [go_sem, Zz.look, Zz.over, Zz.cut, Nat.reduceAdd, Nat.reduceMul, Nat.reduceSub, Nat.reduceLeDiff, Nat.reduceEqDiff, Int.reduceNeg, Int.reduceAdd, Int.reduceToNat, reduceIte, reduceCtorEq]; rfl) (by simp only [pt8, pt0, pt1, pt2, pt3, pt4, pt5, pt6, pt7]; rfl) ?_) | (refine WO.specE rfl rfl (h _) (by simp only [pt8, pt0, pt1, pt2, pt3, pt4, pt5, pt6, pt7]; rfl) ?_) | (refine WC.seq ?_) | (refine WC.region ?_) | (refine WO.nil ?_) | (simp only [fl1, fl2, fl3, fl4, fl5, fl6, fl7, fl8, fl9, fl10, Nat.reduceBEq]) | (refine WC.ret ?_))
  refine ⟨_, rfl, ?_⟩
  simp only [oneRes, gt8, gt0, gt1, gt2, gt3, gt4, gt5, gt6, gt7, AV.bool.injEq]
  rw [decide_eq_decide]
  exact hk
theorem s42 {iv iv' : AV} {ids : List Int} {v : Int} (hiv : IntS iv ids) (himax : ids.length < 9223372036854775807) {m : Mem} (h : Zz.byVal m.heap iv' = some iv) : borrowX E12 42 [iv', .int .i64 v] m = some (.bool (decide (v ∈ ids)), m) :=
  borrowX_of (byVals_cons h (byVals_cons rfl rfl)) ((f42 hiv himax).mono fun y m' h => by rw [h]; rfl)

noncomputable def E13 : Env := E12.put 42 (borrowX E12 42)
theorem E13_ok : EnvOk Tryd.prog E13 := Env.put_ok E12_ok (borrowX_ok E12_ok (callable Tryd.func42 (by kernel_rfl)))
end Go.Proofs.YtjbdefmhjmkifaaDoor


set_option linter.unusedSimpArgs false
set_option linter.unusedVariables false
namespace Go.Proofs.YtjbdefmhjmkifaaDoor
open Go.Zz
set_option maxRecDepth 100000
set_option maxHeartbeats 1000000
/-! ### Shift -/
def lacks (ps : List Pipe) (sup : Int) (ids : List Int) : Int := max 0 (dem ps ids - sup)
def shiftOf (p : Pipe) (l w : Int) : Int := p.warm * w - p.sag * l
theorem lacks_bnd {ps : List Pipe} {sup tol : Int} {ids : List Int} (hv : VO ps sup tol) (hl : ids.length ≤ 1000) : 0 ≤ lacks ps sup ids ∧ lacks ps sup ids ≤ 1000000 := by
  have := demN_bnd hv ids ids.length (Nat.le_refl _)
  have h2 := hv.2.2.1
  have e : demN ps ids ids.length = dem ps ids := rfl
  rw [e] at this
  unfold lacks
  omega
theorem f15 {pv iv : AV} {ps : List Pipe} {ids : List Int} {sup tol id warm : Int} (hq : PpL pv ps) (hmax : ps.length < 9223372036854775807) (hiv : IntS iv ids) (himax : ids.length < 9223372036854775807) :
    WF E13 (.func 15 [] []) [.agg [pv, .int .i64 sup, .int .i64 tol], iv, .int .i64 id, .int .i64 warm] ⟨[], []⟩ fun y m' => y = .tuple [.int .i64 (if setE ps sup tol ids warm = 0 ∧ id ∈ ids then shiftOf (pipeOf ps id) (lacks ps sup ids) warm else 0), .int .i64 (if setE ps sup tol ids warm = 0 then if id ∈ ids then 0 else 4 else setE ps sup tol ids warm)] := by
  have h38 := fun m => s38 (sup := sup) (tol := tol) (warm := warm) hq hmax hiv himax (m := m)
  have hic := hiv.cells
  generalize he : setE ps sup tol ids warm = e at *
  by_cases h0 : e = 0
  · subst h0
    simp only [if_true, true_and] at h38 ⊢
    obtain ⟨hv, hw, hr, hh⟩ := setE_ok.1 he
    have hl := ris_len hv hr hh
    have hb := lacks_bnd hv hl
    have hp44 := (hv.at id).2.2
    by_cases hm : id ∈ ids
    · have e1 : max 0 (dem ps ids - sup) = lacks ps sup ids := rfl
      rw [e1] at h38
      refine WF.fnE rfl (fn_of Tryd.func15 cir15) (by show 4 ≤ 38; decide) ?_
      unfold ir15
      simp only [padTo, List.replicate, List.nil_append, List.append_nil, List.cons_append]
      repeat' (first | (refine WO.opE (by intro; simp (disch := omega) only [go_sem, zeros, Zz.cut, List.append_assoc, List.length_append, Zz.look, ov_one0, Nat.reduceAdd, Nat.reduceMul, Nat.reduceSub, Nat.reduceLeDiff, Nat.reduceEqDiff, Int.reduceNeg, Int.reduceAdd, Int.reduceToNat, reduceIte, reduceCtorEq, over5, Pipe.cells, over10]; rfl) (by simp only [pt8, pt0, pt1, pt2, pt3, pt4, pt5, pt6, pt7]; rfl) ?_) | (refine WO.opN (by intro; simp (disch := omega) only [go_sem, zeros, Zz.cut, List.append_assoc, List.length_append, Zz.look, ov_one0, Nat.reduceAdd, Nat.reduceMul, Nat.reduceSub, Nat.reduceLeDiff, Nat.reduceEqDiff, Int.reduceNeg, Int.reduceAdd, Int.reduceToNat, reduceIte, reduceCtorEq, over5, Pipe.cells, over10]; rfl) ?_) | (refine WO.specE rfl rfl (h38 _) (by simp only [pt8, pt0, pt1, pt2, pt3, pt4, pt5, pt6, pt7]; rfl) ?_) | (refine WO.specE rfl rfl (s42 hiv himax (hiv.byVal _)) (by simp only [pt8, pt0, pt1, pt2, pt3, pt4, pt5, pt6, pt7]; rfl) ?_) | (refine WO.specE rfl rfl (s43 hq hmax) (by simp only [pt8, pt0, pt1, pt2, pt3, pt4, pt5, pt6, pt7]; rfl) ?_) | (refine WO.specE rfl rfl (s44 (p := pipeOf ps id) hq hiv hp44 hw (by omega)) (by simp only [pt8, pt0, pt1, pt2, pt3, pt4, pt5, pt6, pt7]; rfl) ?_) | (refine WC.seq ?_) | (refine WC.region ?_) | (refine WO.nil ?_) | (simp only [fl1, fl2, fl3, fl4, fl5, fl6, fl7, fl8, fl9, fl10, Nat.reduceBEq]) | (refine WC.no rfl ?_) | (refine WC.skip ?_) | (refine WC.ret ?_) | (refine WC.em2 rfl (fun hp => ?_) (fun hp => ?_) <;> try (exfalso; first | omega | contradiction)))
      refine ⟨_, rfl, ?_⟩
      rw [if_pos hm, if_pos hm]
      rfl
    · rw [if_neg hm, if_neg hm]
      refine WF.fnE rfl (fn_of Tryd.func15 cir15) (by show 4 ≤ 38; decide) ?_
      unfold ir15
      simp only [padTo, List.replicate, List.nil_append, List.append_nil, List.cons_append]
      repeat' (first | (refine WO.opE (by intro; simp (disch := omega) only [go_sem, zeros, Zz.cut, List.append_assoc, List.length_append, Zz.look, ov_one0, Nat.reduceAdd, Nat.reduceMul, Nat.reduceSub, Nat.reduceLeDiff, Nat.reduceEqDiff, Int.reduceNeg, Int.reduceAdd, Int.reduceToNat, reduceIte, reduceCtorEq, over5]; rfl) (by simp only [pt8, pt0, pt1, pt2, pt3, pt4, pt5, pt6, pt7]; rfl) ?_) | (refine WO.opN (by intro; simp (disch := omega) only [go_sem, zeros, Zz.cut, List.append_assoc, List.length_append, Zz.look, ov_one0, Nat.reduceAdd, Nat.reduceMul, Nat.reduceSub, Nat.reduceLeDiff, Nat.reduceEqDiff, Int.reduceNeg, Int.reduceAdd, Int.reduceToNat, reduceIte, reduceCtorEq, over5]; rfl) ?_) | (refine WO.specE rfl rfl (h38 _) (by simp only [pt8, pt0, pt1, pt2, pt3, pt4, pt5, pt6, pt7]; rfl) ?_) | (refine WO.specE rfl rfl (s42 hiv himax (hiv.byVal _)) (by simp only [pt8, pt0, pt1, pt2, pt3, pt4, pt5, pt6, pt7]; rfl) ?_) | (refine WC.seq ?_) | (refine WC.region ?_) | (refine WO.nil ?_) | (simp only [fl1, fl2, fl3, fl4, fl5, fl6, fl7, fl8, fl9, fl10, Nat.reduceBEq]) | (refine WC.no rfl ?_) | (refine WC.skip ?_) | (refine WC.ret ?_) | (refine WC.em2 rfl (fun hp => ?_) (fun hp => ?_) <;> try (exfalso; first | omega | contradiction)))
      exact ⟨_, rfl, rfl⟩
  · simp only [if_neg h0, h0, false_and, if_false] at h38 ⊢
    refine WF.fnE rfl (fn_of Tryd.func15 cir15) (by show 4 ≤ 38; decide) ?_
    unfold ir15
    simp only [padTo, List.replicate, List.nil_append, List.append_nil, List.cons_append]
    repeat' (first | (refine WO.opE (by intro; simp (disch := omega) only [go_sem, zeros, Zz.cut, List.append_assoc, List.length_append, Zz.look, ov_one0, Nat.reduceAdd, Nat.reduceMul, Nat.reduceSub, Nat.reduceLeDiff, Nat.reduceEqDiff, Int.reduceNeg, Int.reduceAdd, Int.reduceToNat, reduceIte, reduceCtorEq, over5]; rfl) (by simp only [pt8, pt0, pt1, pt2, pt3, pt4, pt5, pt6, pt7]; rfl) ?_) | (refine WO.opN (by intro; simp (disch := omega) only [go_sem, zeros, Zz.cut, List.append_assoc, List.length_append, Zz.look, ov_one0, Nat.reduceAdd, Nat.reduceMul, Nat.reduceSub, Nat.reduceLeDiff, Nat.reduceEqDiff, Int.reduceNeg, Int.reduceAdd, Int.reduceToNat, reduceIte, reduceCtorEq, over5]; rfl) ?_) | (refine WO.specE rfl rfl (h38 _) (by simp only [pt8, pt0, pt1, pt2, pt3, pt4, pt5, pt6, pt7]; rfl) ?_) | (refine WC.seq ?_) | (refine WC.region ?_) | (refine WO.nil ?_) | (simp only [fl1, fl2, fl3, fl4, fl5, fl6, fl7, fl8, fl9, fl10, Nat.reduceBEq]) | (refine WC.ret ?_) | (refine WC.em2 rfl (fun hp => ?_) (fun hp => ?_) <;> try (exfalso; first | omega | contradiction)))
    exact ⟨_, rfl, rfl⟩
theorem s15 {pv iv iv' : AV} {ps : List Pipe} {ids : List Int} {sup tol id warm : Int} (hq : PpL pv ps) (hmax : ps.length < 9223372036854775807) (hiv : IntS iv ids) (himax : ids.length < 9223372036854775807) {m : Mem} (h : Zz.byVal m.heap iv' = some iv) :
    borrowX E13 15 [.agg [pv, .int .i64 sup, .int .i64 tol], iv', .int .i64 id, .int .i64 warm] m = some (.tuple [.int .i64 (if setE ps sup tol ids warm = 0 ∧ id ∈ ids then shiftOf (pipeOf ps id) (lacks ps sup ids) warm else 0), .int .i64 (if setE ps sup tol ids warm = 0 then if id ∈ ids then 0 else 4 else setE ps sup tol ids warm)], m) :=
  borrowX_of (byVals_cons (byO hq) (byVals_cons h (byVals_cons rfl (byVals_cons rfl rfl)))) ((f15 hq hmax hiv himax).mono fun y m' h => by rw [h]; rfl)

noncomputable def E14 : Env := E13.put 15 (borrowX E13 15)
theorem E14_ok : EnvOk Tryd.prog E14 := Env.put_ok E13_ok (borrowX_ok E13_ok (callable Tryd.func15 (by kernel_rfl)))
/-! ### Steady -/
def within1 (ps : List Pipe) (tol l w id : Int) : Prop := pos ps id < ps.length → -(tol * 10000) ≤ shiftOf (pipeOf ps id) l w ∧ shiftOf (pipeOf ps id) l w ≤ tol * 10000
def Stead (ps : List Pipe) (tol : Int) (ids : List Int) (l w : Int) : Prop := ∀ j, j < ids.length → within1 ps tol l w (ids.getD j 0)
instance (ps : List Pipe) (tol l w id : Int) : Decidable (within1 ps tol l w id) := by unfold within1; infer_instance
instance (ps : List Pipe) (tol : Int) (ids : List Int) (l w : Int) : Decidable (Stead ps tol ids l w) := by unfold Stead; infer_instance

theorem f47 {pv iv : AV} {ps : List Pipe} {ids : List Int} {sup tol l w : Int} (hq : PpL pv ps) (hmax : ps.length < 9223372036854775807) (hiv : IntS iv ids) (himax : ids.length < 9223372036854775807) (hv : VO ps sup tol) (hw : -100 ≤ w ∧ w ≤ 100) (hl : 0 ≤ l ∧ l ≤ 1000000000) :
    WF E14 (.func 47 [] []) [.agg [pv, .int .i64 sup, .int .i64 tol, iv, .int .i64 l], .int .i64 w] ⟨[], []⟩ fun y m' => y = .bool (decide (Stead ps tol ids l w)) := by
  have hic := hiv.cells
  have hic2 := hic
  unfold AV.cells at hic2
  have ht := hv.2.2.2
  refine WF.fnE rfl (fn_of Tryd.func47 cir47) (by show 2 ≤ 26; decide) ?_
  unfold ir47
  simp only [padTo, List.replicate, List.nil_append, List.append_nil, List.cons_append]
  repeat' (first | (refine WO.opE (by intro; simp (disch := omega) only [go_sem, zeros, Zz.cut, List.append_assoc, List.length_append, Zz.look, ov_one0, Nat.reduceAdd, Nat.reduceMul, Nat.reduceSub, Nat.reduceLeDiff, Nat.reduceEqDiff, Int.reduceNeg, Int.reduceAdd, Int.reduceToNat, reduceIte, reduceCtorEq, List.map_cons, List.map_nil, hic2]; rfl) (by simp only [pt8, pt0, pt1, pt2, pt3, pt4, pt5, pt6, pt7]; rfl) ?_) | (refine WO.callE rfl rfl (f39 (E := E14) rfl (fn_of Tryd.func39 cir39) (iv := iv) hic rfl) (by simp only [pt8, pt0, pt1, pt2, pt3, pt4, pt5, pt6, pt7]; rfl) ?_) | (refine WC.seq ?_) | (refine WC.region ?_) | (refine WO.nil ?_) | (simp only [fl1, fl2, fl3, fl4, fl5, fl6, fl7, fl8, fl9, fl10, Nat.reduceBEq]) | (refine WC.block ?_))
  refine WC.rangeFunc rfl ((f70 (E := E14) (sup := sup) (tol := tol) (qi := 4) (qo := 3) (iv := iv) (ids := ids) rfl (fn_of Tryd.func70 cir70) rfl hq hmax (by omega) (fun i H => (∃ R, H = some ⟨0, [pv, .int .i64 sup, .int .i64 tol, iv, .int .i64 l]⟩ :: some ⟨0, [.int .i64 w]⟩ :: some ⟨0, [.bool false]⟩ :: some ⟨0, [pv, .int .i64 sup, .int .i64 tol]⟩ :: some ⟨0, [iv]⟩ :: R) ∧ ∀ j, j < i → within1 ps tol l w (ids.getD j 0)) (fun m' => (∃ r : ALoop, m'.loops = [some r] ∧ r.pending = some .ret) ∧ (∃ R, m'.heap = some ⟨0, [pv, .int .i64 sup, .int .i64 tol, iv, .int .i64 l]⟩ :: some ⟨0, [.int .i64 w]⟩ :: some ⟨0, [.bool false]⟩ :: some ⟨0, [pv, .int .i64 sup, .int .i64 tol]⟩ :: some ⟨0, [iv]⟩ :: R) ∧ ¬ Stead ps tol ids l w) ⟨⟨[], rfl⟩, fun j hj => by omega⟩ ?_ ?_ ?_ ?_).mono ?_)
  · rintro i H ⟨⟨R, rfl⟩, _⟩
    exact ⟨intS_rd hiv _, rfl, rfl⟩
  · rintro i H b ⟨⟨R, rfl⟩, h⟩
    exact ⟨⟨R ++ [b], rfl⟩, h⟩
  · rintro i H hi1 hi2 ⟨hR, h⟩
    refine ⟨hR, fun j hj => ?_⟩
    by_cases e : j = i
    · subst e; exact fun h => absurd h hi2
    · exact h j (by omega)
  · rintro i H hi1 hi2 ⟨⟨R, rfl⟩, hprev⟩
    have hp44 := (hv.at (ids.getD i 0)).2.2
    have hwi : within1 ps tol l w (ids.getD i 0) ↔ (0 - tol * 10000 ≤ (pipeOf ps (ids.getD i 0)).warm * w - (pipeOf ps (ids.getD i 0)).sag * l ∧ (pipeOf ps (ids.getD i 0)).warm * w - (pipeOf ps (ids.getD i 0)).sag * l ≤ tol * 10000) := by
      unfold within1 shiftOf
      exact ⟨fun h => by have := h hi2; omega, fun h _ => by omega⟩
    refine WF.yield rfl rfl ?_
    generalize hL1 : ([] ++ [_] : List (Option ALoop)).set _ _ = L1
    simp only [setAll, pt8, pt0, pt1, pt2, pt3, pt4, pt5, pt6, pt7]
    repeat' (first | (refine WO.opE (by intro; simp (disch := omega) only [go_sem, zeros, Zz.look, List.append_assoc, List.length_append, ov_one0, Nat.reduceAdd, Nat.reduceMul, Nat.reduceSub, Nat.reduceLeDiff, Nat.reduceEqDiff, Int.reduceNeg, Int.reduceAdd, Int.reduceToNat, reduceIte, reduceCtorEq, Pipe.cells, over10, app_g0, app_g1, app_g2, app_g3, app_g4, app_s0, app_s1, app_s2, app_s3, app_s4]; rfl) (by simp only [pt8, pt0, pt1, pt2, pt3, pt4, pt5, pt6, pt7]; rfl) ?_) | (refine WO.opN (by intro; simp (disch := omega) only [go_sem, zeros, Zz.look, List.append_assoc, List.length_append, ov_one0, Nat.reduceAdd, Nat.reduceMul, Nat.reduceSub, Nat.reduceLeDiff, Nat.reduceEqDiff, Int.reduceNeg, Int.reduceAdd, Int.reduceToNat, reduceIte, reduceCtorEq, Pipe.cells, over10, app_g0, app_g1, app_g2, app_g3, app_g4, app_s0, app_s1, app_s2, app_s3, app_s4]; rfl) ?_) | (refine WC.region ?_) | (refine WO.nil ?_) | (simp only [fl1, fl2, fl3, fl4, fl5, fl6, fl7, fl8, fl9, fl10, Nat.reduceBEq]))
    refine ⟨trivial, rfl, ?_⟩
    repeat' (first | (refine WO.opE (by intro; simp (disch := omega) only [go_sem, zeros, Zz.look, List.append_assoc, List.length_append, ov_one0, Nat.reduceAdd, Nat.reduceMul, Nat.reduceSub, Nat.reduceLeDiff, Nat.reduceEqDiff, Int.reduceNeg, Int.reduceAdd, Int.reduceToNat, reduceIte, reduceCtorEq, Pipe.cells, over10, app_g0, app_g1, app_g2, app_g3, app_g4, app_s0, app_s1, app_s2, app_s3, app_s4]; rfl) (by simp only [pt8, pt0, pt1, pt2, pt3, pt4, pt5, pt6, pt7]; rfl) ?_) | (refine WO.opN (by intro; simp (disch := omega) only [go_sem, zeros, Zz.look, List.append_assoc, List.length_append, ov_one0, Nat.reduceAdd, Nat.reduceMul, Nat.reduceSub, Nat.reduceLeDiff, Nat.reduceEqDiff, Int.reduceNeg, Int.reduceAdd, Int.reduceToNat, reduceIte, reduceCtorEq, Pipe.cells, over10, app_g0, app_g1, app_g2, app_g3, app_g4, app_s0, app_s1, app_s2, app_s3, app_s4]; rfl) ?_) | (refine WO.specE rfl rfl (s41) (by simp only [pt8, pt0, pt1, pt2, pt3, pt4, pt5, pt6, pt7]; rfl) ?_) | (refine WO.specE rfl rfl (s44 (p := pipeOf ps (ids.getD i 0)) hq hiv hp44 hw (by omega)) (by simp only [pt8, pt0, pt1, pt2, pt3, pt4, pt5, pt6, pt7]; rfl) ?_) | (refine WC.seq ?_) | (refine WC.region ?_) | (refine WO.nil ?_) | (simp only [fl1, fl2, fl3, fl4, fl5, fl6, fl7, fl8, fl9, fl10, Nat.reduceBEq]) | (refine WC.skip ?_) | (refine WC.ret ?_) | (refine WC.block ?_) | (refine WC.em2 rfl (fun hp => ?_) (fun hp => ?_) <;> try (exfalso; first | omega | contradiction)))
    · exact ⟨trivial, .inr ⟨fun h => (by cases h), .inr ⟨by first | rfl | trivial, ⟨_, rfl, rfl⟩, ⟨R ++ [_], rfl⟩, fun hs => hp (hwi.1 (hs i hi1))⟩⟩⟩
    · exact ⟨trivial, .inl ⟨trivial, .inl ⟨by first | rfl | trivial, by first | rfl | trivial, ⟨R ++ [_], rfl⟩, fun j hj => by
        by_cases e : j = i
        · subst e; exact hwi.2 (Decidable.of_not_not hp)
        · exact hprev j (by omega)⟩⟩⟩
  · rintro v m' (⟨h1, ⟨R, h2⟩, hall⟩ | ⟨⟨r, h1, h2⟩, ⟨R, h3⟩, hn⟩)
    · refine ⟨_, by rw [h1]; rfl, .inl ⟨rfl, rfl, ?_⟩⟩
      rw [h2]
      repeat' (first | (refine WO.opN (by intro; simp (disch := omega) only [go_sem, zeros, Zz.look, List.append_assoc, List.length_append, ov_one0, Nat.reduceAdd, Nat.reduceMul, Nat.reduceSub, Nat.reduceLeDiff, Nat.reduceEqDiff, Int.reduceNeg, Int.reduceAdd, Int.reduceToNat, reduceIte, reduceCtorEq, fillP, over5]; rfl) ?_) | (refine WC.seq ?_) | (refine WC.region ?_) | (refine WO.nil ?_) | (simp only [fl1, fl2, fl3, fl4, fl5, fl6, fl7, fl8, fl9, fl10, Nat.reduceBEq]) | (refine WC.ret ?_))
      refine ⟨_, rfl, ?_⟩
      simp only [oneRes, AV.bool.injEq]
      symm
      rw [decide_eq_true_iff]
      exact hall
    · refine ⟨r, by rw [h1]; rfl, .inr ⟨_, h2, ?_⟩⟩
      simp only [fl1, fl2, fl3, fl4, fl5, fl6, fl7, fl8, fl9, fl10, Nat.reduceBEq]
      rw [h3]
      refine ⟨_, rfl, ?_⟩
      simp only [oneRes, AV.bool.injEq]
      symm
      rw [decide_eq_false_iff_not]
      exact hn
theorem s47 {pv iv : AV} {ps : List Pipe} {ids : List Int} {sup tol l w : Int} (hq : PpL pv ps) (hmax : ps.length < 9223372036854775807) (hiv : IntS iv ids) (himax : ids.length < 9223372036854775807) (hv : VO ps sup tol) (hw : -100 ≤ w ∧ w ≤ 100) (hl : 0 ≤ l ∧ l ≤ 1000000000) {m : Mem} :
    borrowE E14 47 [.agg [pv, .int .i64 sup, .int .i64 tol, iv, .int .i64 l], .int .i64 w] m = some (.bool (decide (Stead ps tol ids l w)), m) :=
  borrowE_of (pures_cons (pure5 hq.pureC hiv.pureC) (pures_cons rfl rfl)) ((f47 hq hmax hiv himax hv hw hl).mono fun y m' h => by rw [h]; rfl)

noncomputable def E15 : Env := E14.put 47 (borrowE E14 47)
theorem E15_ok : EnvOk Tryd.prog E15 := Env.put_ok E14_ok (borrowE_ok E14_ok (callable Tryd.func47 (by kernel_rfl)))
theorem f20 {pv iv : AV} {ps : List Pipe} {ids : List Int} {sup tol warm : Int} (hq : PpL pv ps) (hmax : ps.length < 9223372036854775807) (hiv : IntS iv ids) (himax : ids.length < 9223372036854775807) :
    WF E15 (.func 20 [] []) [.agg [pv, .int .i64 sup, .int .i64 tol], iv, .int .i64 warm] ⟨[], []⟩ fun y m' => y = .tuple [.bool (decide (setE ps sup tol ids warm = 0 ∧ Stead ps tol ids (lacks ps sup ids) warm)), .int .i64 (setE ps sup tol ids warm)] := by
  have h38 := fun m => s38 (sup := sup) (tol := tol) (warm := warm) hq hmax hiv himax (m := m)
  generalize he : setE ps sup tol ids warm = e at *
  by_cases h0 : e = 0
  · subst h0
    simp only [if_true, true_and] at h38 ⊢
    obtain ⟨hv, hw, hr, hh⟩ := setE_ok.1 he
    have hl := ris_len hv hr hh
    have hb := lacks_bnd hv hl
    have e1 : max 0 (dem ps ids - sup) = lacks ps sup ids := rfl
    rw [e1] at h38
    refine WF.fnE rfl (fn_of Tryd.func20 cir20) (by show 3 ≤ 25; decide) ?_
    unfold ir20
    simp only [padTo, List.replicate, List.nil_append, List.append_nil, List.cons_append]
    repeat' (first | (refine WO.yes rfl ?_) | (refine WO.opE (by intro; simp (disch := omega) only [go_sem, zeros, Zz.cut, List.append_assoc, List.length_append, Zz.look, ov_one0, Nat.reduceAdd, Nat.reduceMul, Nat.reduceSub, Nat.reduceLeDiff, Nat.reduceEqDiff, Int.reduceNeg, Int.reduceAdd, Int.reduceToNat, reduceIte, reduceCtorEq, over5]; rfl) (by simp only [pt8, pt0, pt1, pt2, pt3, pt4, pt5, pt6, pt7]; rfl) ?_) | (refine WO.opN (by intro; simp (disch := omega) only [go_sem, zeros, Zz.cut, List.append_assoc, List.length_append, Zz.look, ov_one0, Nat.reduceAdd, Nat.reduceMul, Nat.reduceSub, Nat.reduceLeDiff, Nat.reduceEqDiff, Int.reduceNeg, Int.reduceAdd, Int.reduceToNat, reduceIte, reduceCtorEq, over5]; rfl) ?_) | (refine WO.specE rfl rfl (h38 _) (by simp only [pt8, pt0, pt1, pt2, pt3, pt4, pt5, pt6, pt7]; rfl) ?_) | (refine WO.specE rfl rfl (s47 hq hmax hiv himax hv hw (by omega)) (by simp only [pt8, pt0, pt1, pt2, pt3, pt4, pt5, pt6, pt7]; rfl) ?_) | (refine WC.seq ?_) | (refine WC.region ?_) | (refine WO.nil ?_) | (simp only [fl1, fl2, fl3, fl4, fl5, fl6, fl7, fl8, fl9, fl10, Nat.reduceBEq]) | (refine WC.ret ?_))
    exact ⟨_, rfl, rfl⟩
  · simp only [if_neg h0, h0, false_and, decide_false] at h38 ⊢
    refine WF.fnE rfl (fn_of Tryd.func20 cir20) (by show 3 ≤ 25; decide) ?_
    unfold ir20
    simp only [padTo, List.replicate, List.nil_append, List.append_nil, List.cons_append]
    repeat' (first | (refine WO.noE rfl (by simp only [pt8, pt0, pt1, pt2, pt3, pt4, pt5, pt6, pt7]; rfl) ?_) | (refine WO.opE (by intro; simp (disch := omega) only [go_sem, zeros, Zz.cut, List.append_assoc, List.length_append, Zz.look, ov_one0, Nat.reduceAdd, Nat.reduceMul, Nat.reduceSub, Nat.reduceLeDiff, Nat.reduceEqDiff, Int.reduceNeg, Int.reduceAdd, Int.reduceToNat, reduceIte, reduceCtorEq, over5]; rfl) (by simp only [pt8, pt0, pt1, pt2, pt3, pt4, pt5, pt6, pt7]; rfl) ?_) | (refine WO.opN (by intro; simp (disch := omega) only [go_sem, zeros, Zz.cut, List.append_assoc, List.length_append, Zz.look, ov_one0, Nat.reduceAdd, Nat.reduceMul, Nat.reduceSub, Nat.reduceLeDiff, Nat.reduceEqDiff, Int.reduceNeg, Int.reduceAdd, Int.reduceToNat, reduceIte, reduceCtorEq, over5]; rfl) ?_) | (refine WO.specE rfl rfl (h38 _) (by simp only [pt8, pt0, pt1, pt2, pt3, pt4, pt5, pt6, pt7]; rfl) ?_) | (refine WC.seq ?_) | (refine WC.region ?_) | (refine WO.nil ?_) | (simp only [fl1, fl2, fl3, fl4, fl5, fl6, fl7, fl8, fl9, fl10, Nat.reduceBEq]) | (refine WC.ret ?_) | (refine WO.em2 rfl (by intro hp; simp only [hp, decide_true]; rfl) (by intro hp; simp only [hp, decide_false]; rfl) (fun hp => ?_) (fun hp => ?_) <;> try (exfalso; first | omega | contradiction)))
    exact ⟨_, rfl, rfl⟩
theorem s20 {pv iv iv' : AV} {ps : List Pipe} {ids : List Int} {sup tol warm : Int} (hq : PpL pv ps) (hmax : ps.length < 9223372036854775807) (hiv : IntS iv ids) (himax : ids.length < 9223372036854775807) {m : Mem} (h : Zz.byVal m.heap iv' = some iv) :
    borrowX E15 20 [.agg [pv, .int .i64 sup, .int .i64 tol], iv', .int .i64 warm] m = some (.tuple [.bool (decide (setE ps sup tol ids warm = 0 ∧ Stead ps tol ids (lacks ps sup ids) warm)), .int .i64 (setE ps sup tol ids warm)], m) :=
  borrowX_of (byVals_cons (byO hq) (byVals_cons h (byVals_cons rfl rfl))) ((f20 hq hmax hiv himax).mono fun y m' h => by rw [h]; rfl)

noncomputable def E16 : Env := E15.put 20 (borrowX E15 20)
theorem E16_ok : EnvOk Tryd.prog E16 := Env.put_ok E15_ok (borrowX_ok E15_ok (callable Tryd.func20 (by kernel_rfl)))
end Go.Proofs.YtjbdefmhjmkifaaDoor

