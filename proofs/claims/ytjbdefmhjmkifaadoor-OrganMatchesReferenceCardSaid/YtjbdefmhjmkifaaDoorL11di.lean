import Derived.Test.YtjbdefmhjmkifaaDoorIr11xc10
import Derived.Test.YtjbdefmhjmkifaaDoorL11dh
import Derived.Test.YtjbdefmhjmkifaaDoorL11db

set_option linter.unusedSimpArgs false
set_option linter.unusedVariables false
namespace Go.Proofs.YtjbdefmhjmkifaaDoor
open Go.Zz
set_option maxRecDepth 100000
set_option maxHeartbeats 8000000
theorem s22x {pv iv iv' vv : AV} {ps : List Pipe} {ids : List Int} {vs : List V6} {sup tol w : Int} (hq : PpL pv ps) (hiv : IntS iv ids) (hvv : VL6 vv vs) (h12 : vs.length ≤ 1000) (hvs : okVs vs) (hv : VO ps sup tol) (hw : -100 ≤ w ∧ w ≤ 100) (himax : ids.length < 9223372036854775807) {m : Mem} (h : Zz.byVal m.heap iv' = some iv) :
    borrowX C14 22 [.agg [pv, .int .i64 sup, .int .i64 tol], vv, iv', .int .i64 w] m = some (.bool (decide (playsR ps sup tol vs ids w)), m) :=
  borrowX_of (byVals_cons (byO hq) (byVals_cons (hvv.byVal _) (byVals_cons h (byVals_cons rfl rfl)))) ((f22 hq hiv hvv h12 hvs hv hw himax).mono fun y m' h => by rw [h]; rfl)

noncomputable def D15 : Env := D14.put 22 (borrowX C14 22)
theorem D15_ok : EnvOk Tryd.prog D15 := Env.put_ok D14_ok (borrowX_ok C14_ok (callable Tryd.func22 (by kernel_rfl)))
theorem zeros_i (n : Nat) : zeros [AV.int .i64 0] n = (List.replicate n (0 : Int)).map (.int .i64) := by
  induction n with
  | zero => rfl
  | succ n ih => rw [zeros, ih]; rfl
theorem prodN_L {LS : List (List Int)} (h : ∀ i, (LS.getD i []).length ≤ 10) (h3 : LS.length ≤ 3) : prodN LS LS.length = (prodL LS : Nat) := by
  have hs := prodN_small h
  match LS, h, h3 with
  | [], _, _ => rfl
  | [a], _, _ => simp [prodN, prodL]
  | [a, b], h, _ =>
    have h1 := hs 1 (by omega)
    have e : prodN [a, b] 1 = a.length := by simp [prodN]
    show prodN [a, b] 2 = _
    rw [prodN, if_pos (by omega), e]
    simp [prodL]
  | [a, b, c], h, _ =>
    have h1 := hs 1 (by omega)
    have h2 := hs 2 (by omega)
    have e : prodN [a, b, c] 1 = a.length := by simp [prodN]
    have e2 : prodN [a, b, c] 2 = a.length * b.length := by rw [prodN, if_pos (by omega), e]; simp
    show prodN [a, b, c] 3 = _
    rw [prodN, if_pos (by omega), e2]
    simp [prodL, Nat.mul_assoc, Int.mul_assoc]
theorem drop_getD {LS : List (List Int)} {j : Nat} (h : j < LS.length) : LS.drop j = LS.getD j [] :: LS.drop (j + 1) := by
  rw [List.drop_eq_getElem_cons h, List.getD_eq_getElem?_getD, List.getElem?_eq_getElem h]
  rfl
theorem prodL_pos : ∀ {LS : List (List Int)}, (∀ j, j < LS.length → LS.getD j [] ≠ []) → 0 < prodL LS
  | [], _ => by simp [prodL]
  | l :: LS, h => by
    have h0 : l ≠ [] := by simpa using h 0 (by simp)
    have h1 := prodL_pos (LS := LS) fun j hj => by simpa using h (j + 1) (by simpa using hj)
    exact Nat.mul_pos (List.length_pos_iff.2 h0) h1
theorem drop_set {t : List Int} {j : Nat} (h : j < t.length) (x : Int) : (t.set j x).drop j = x :: t.drop (j + 1) := by
  rw [List.drop_eq_getElem_cons (by simpa using h), List.getElem_set_self, List.drop_set_of_lt (by omega)]
theorem rem_ok {a b : Nat} (h : 0 < b) : binAV .rem (.int .i64 (a : Int)) (.int .i64 (b : Int)) = some (.int .i64 ((a % b : Nat) : Int)) := by
  show (if (b : Int) = 0 then none else some (AV.int .i64 ((a : Int).tmod b))) = _
  rw [if_neg (by omega), Int.ofNat_tmod]
theorem quo_ok {a b : Nat} (h : 0 < b) (ha : a < 9223372036854775808) : binAV .quo (.int .i64 (a : Int)) (.int .i64 (b : Int)) = some (.int .i64 ((a / b : Nat) : Int)) := by
  show (if (b : Int) = 0 then none else some (AV.int .i64 (IntKind.wrap .i64 ((a : Int).tdiv b)))) = _
  have e : (a : Int).tdiv b = ((a / b : Nat) : Int) := (Int.ofNat_tdiv _ _).symm
  have h1 := Nat.div_le_self a b
  generalize a / b = c at *
  rw [if_neg (by omega), e, wrap_id (by omega) (by omega)]
/-- The reference's Chord. -/
theorem f33 {pv vv : AV} {ps : List Pipe} {vs : List V6} {sup tol w : Int} (hq : PpL pv ps) (hmax : ps.length < 9223372036854775807) (hvv : VL6 vv vs) (h3 : vs.length ≤ 3) (hLb : ∀ i, ((LSof ps tol vs).getD i []).length ≤ 10) :
    WF D15 (.func 33 [] []) [.agg [pv, .int .i64 sup, .int .i64 tol], vv, .int .i64 w] ⟨[], []⟩ fun y m' => ∃ x, resV m'.heap y = some (.tuple [x, .int .i64 (chordE ps sup tol vs w)]) ∧ (chordE ps sup tol vs w = 0 → ∃ r, findC ps sup tol vs w = some r ∧ IntS x r) ∧ (chordE ps sup tol vs w ≠ 0 → x = .snil) := by
  have hvl := hvv.len
  have h24 := fun m => s24 (sup := sup) (tol := tol) (m := m) hq hmax
  by_cases hvw : VO ps sup tol ∧ (-100 ≤ w ∧ w ≤ 100)
  · obtain ⟨hv, hw⟩ := hvw
    rw [decide_eq_true hv] at h24
    have hbad : ¬ okVs vs → chordE ps sup tol vs w = 1 := fun h => if_neg fun h' => h h'.2.2.2
    have hce : okVs vs → chordE ps sup tol vs w = if ∃ j, j < vs.length ∧ (LSof ps tol vs).getD j [] = [] then 4 else if 10000 < prodN (LSof ps tol vs) vs.length then 2 else if (findC ps sup tol vs w).isSome then 0 else 21 := fun h => if_pos ⟨hv, hw, by omega, h⟩
    have hpb := prodN_small hLb
    have hLl := LSof_len (ps := ps) (tol := tol) (vs := vs)
    have hLat : ∀ i, i < vs.length → (LSof ps tol vs).getD i [] = findL ps tol (nv vs i) ps.length := fun i hi => LSof_at hi
    have hX0 : ∀ i : Nat, ∃ x : AV, i < vs.length → ((nv vs i).ok 48 → IntS x ((LSof ps tol vs).getD i [])) ∧ ∀ m, borrowE D12 36 [.agg [pv, .int .i64 sup, .int .i64 tol], .agg (nv vs i).cells] m = some (.tuple [x, .int .i64 (if (nv vs i).ok 48 then 0 else 1)], m) := fun i => by
      obtain ⟨x, x1, x2, x3⟩ := s36 (sup := sup) (tol := tol) (w := nv vs i) hq hmax
      refine ⟨x, fun hi => ?_⟩
      rw [hLat i hi]
      refine ⟨fun h => x1 ⟨hv, h⟩, fun m => ?_⟩
      rw [x3]
      by_cases h : (nv vs i).ok 48
      · rw [if_pos h, if_pos ⟨hv, h⟩]
      · rw [if_neg h, if_neg fun h' => h h'.2]
    obtain ⟨X, hX⟩ := Classical.axiomOfChoice hX0
    clear hX0
    have hfirst := fun n => chord_first (w := w) (n := n) hv (vs := vs)
    have hnever := chord_never (w := w) hv (vs := vs)
    have hpL := prodN_L hLb (by rw [hLl]; exact h3)
    rw [hLl] at hpL
    generalize LSof ps tol vs = LS at *
    refine WF.fnE rfl (fn_of Tryd.func33 cir33) (by show 3 ≤ 118; decide) ?_
    unfold ir33
    simp only [padTo, List.replicate, List.nil_append, List.append_nil, List.cons_append]
    repeat' (first | (refine WO.yes rfl ?_) | (refine WO.opE (by intro; simp (disch := omega) only [go_sem, zeros, Zz.look, List.append_assoc, List.length_append, ov_one0, ov_all2, ov_all6, Nat.reduceAdd, Nat.reduceMul, Nat.reduceSub, Nat.reduceLeDiff, Nat.reduceEqDiff, Int.reduceNeg, Int.reduceAdd, Int.reduceToNat, reduceIte, reduceCtorEq]; rfl) (by simp only [pt8, pt0, pt1, pt2, pt3, pt4, pt5, pt6, pt7]; rfl) ?_) | (refine WO.opE (by intro; exact ev_lenS (by simp only [go_sem]; first | rfl | assumption)) (by simp only [pt8, pt0, pt1, pt2, pt3, pt4, pt5, pt6, pt7]; rfl) ?_) | (refine WO.specE rfl rfl (h24 _) (by simp only [pt8, pt0, pt1, pt2, pt3, pt4, pt5, pt6, pt7]; rfl) ?_) | (refine WO.specE rfl rfl (s63) (by simp only [pt8, pt0, pt1, pt2, pt3, pt4, pt5, pt6, pt7]; rfl) ?_) | (refine WC.seq ?_) | (refine WC.region ?_) | (refine WO.nil ?_) | (simp only [fl1, fl2, fl3, fl4, fl5, fl6, fl7, fl8, fl9, fl10, Nat.reduceBEq]) | (refine WC.skip ?_) | (refine WC.block ?_) | (refine WO.em2 rfl (by intro hp; simp only [hp, decide_true]; rfl) (by intro hp; simp only [hp, decide_false]; rfl) (fun hp => ?_) (fun hp => ?_) <;> try (exfalso; first | omega | contradiction)) | (refine WC.em2 rfl (fun hp => ?_) (fun hp => ?_) <;> try (exfalso; first | omega | contradiction)))
    refine WC.loopI (fun m s => ∃ T H i v q, s = ⟨T, H, []⟩ ∧ T.length = 118 ∧ gt T 1 = vv ∧ gt T 2 = .int .i64 w ∧ gt T 3 = .pref 0 0 0 ∧ gt T 10 = .bool (decide (∃ j, j < i ∧ LS.getD j [] = [])) ∧ gt T 11 = .int .i64 (prodN LS i) ∧ gt T 12 = v ∧ gt T 13 = .int .i64 (i : Nat) ∧ m + i = vs.length ∧ Zz.look H 0 0 = some [pv, .int .i64 sup, .int .i64 tol] ∧ GS 1 H v q ((List.range i).map X) ∧ 1 ≤ q ∧ ∀ j, j < i → (nv vs j).ok 48) ?_ vs.length _ ⟨_, _, 0, _, 1, rfl, rfl, rfl, rfl, rfl, by
      simp only [gt8, gt0, gt1, gt2, gt3, gt4, gt5, gt6, gt7, AV.bool.injEq]
      symm
      rw [decide_eq_false_iff_not]
      rintro ⟨j, hj, _⟩
      omega, rfl, rfl, rfl, by omega, rfl, .inl ⟨rfl, rfl⟩, by omega, fun j hj => by omega⟩
    rintro m _ ⟨T, H, i, v, q, rfl, hT, g1, g2, g3, g10, g11, g12, g13, hm, k0, hg, hq1, hoks⟩
    obtain ⟨f, rfl⟩ := ex118 hT
    clear hT
    replace g1 : f 1 = vv := g1
    replace g2 : f 2 = .int .i64 w := g2
    replace g3 : f 3 = .pref 0 0 0 := g3
    replace g10 : f 10 = .bool (decide (∃ j, j < i ∧ LS.getD j [] = [])) := g10
    replace g11 : f 11 = .int .i64 (prodN LS i) := g11
    replace g12 : f 12 = v := g12
    replace g13 : f 13 = .int .i64 (i : Nat) := g13
    simp only [g1, g2, g3, g10, g11, g12, g13]
    have l0 := look_lt k0
    by_cases hin : i < vs.length
    · obtain ⟨hXi, hX36⟩ := hX i hin
      by_cases hok : (nv vs i).ok 48
      · have hXs := hXi hok
        rw [if_pos hok] at hX36
        have hXl := hXs.len
        have hXc := hXs.cells
        unfold AV.cells at hXc
        have hpi := hpb i (by omega)
        have hpi0 := (prodN_bnd (LS := LS) (fun i => by have := hLb i; omega) i).1
        have hlbi := hLb i
        have mb := mul_bnd hpi0 hpi (b := ((LS.getD i []).length : Int)) (B := 10) (by omega) (by omega)
        have hps : prodN LS (i + 1) = prodN LS i * (LS.getD i []).length := by rw [prodN, if_pos (by omega)]
        have hmin : min (prodN LS i * ((LS.getD i []).length : Int)) 10001 = prodN LS (i + 1) := by rw [hps]; omega
        obtain ⟨v', q', H1, e1, a1, a2, a3, a4⟩ := (hg.more [some ⟨0, [X i]⟩]).append (L := []) (bytes := 24) (n := 1) (cap := some 1) (id := H.length) (lk0 rfl) rfl Nat.one_pos Nat.one_pos ⟨by rw [Nat.div_one]; simp; omega, by rw [Nat.div_one]; simp; omega⟩
        have hkk : ∀ j, j < H.length → j ≠ q → H1[j]? = H[j]? := fun j h1 h2 => by rw [a4 j (by simp; omega) h2, List.getElem?_append_left h1]
        have t1 : (List.range i).map X ++ [X i] = (List.range (i + 1)).map X := by rw [List.range_succ, List.map_append]; rfl
        rw [t1] at a1
        repeat' (first | (refine WO.yes rfl ?_) | (refine WO.noE rfl (by simp only [pt8, pt0, pt1, pt2, pt3, pt4, pt5, pt6, pt7]; rfl) ?_) | (refine WO.opE (by intro; simp (disch := omega) only [go_sem, zeros, List.append_assoc, List.length_append, ov_all6, ov_one0, ov_all2, Nat.reduceAdd, Nat.reduceMul, Nat.reduceSub, Nat.reduceLeDiff, Nat.reduceEqDiff, Int.reduceNeg, Int.reduceAdd, Int.reduceToNat, reduceIte, reduceCtorEq, hvv.at, cut6, cut3z, V6.cells, hXc, hmin, Option.bind_eq_bind, lk0, lk1, st0, st1, k0, look_left]; rfl) (by simp only [pt8, pt0, pt1, pt2, pt3, pt4, pt5, pt6, pt7]; rfl) ?_) | (refine WO.opE (by intro; exact ev_lenS (by simp only [go_sem]; first | rfl | assumption)) (by simp only [pt8, pt0, pt1, pt2, pt3, pt4, pt5, pt6, pt7]; rfl) ?_) | (refine WT.spec rfl rfl (fun V => hX36 _) (by simp only [pt8, pt0, pt1, pt2, pt3, pt4, pt5, pt6, pt7]; rfl) ?_) | (refine WO.opE (by intro; rw [ev_append]; exact e1) (by simp only [pt8, pt0, pt1, pt2, pt3, pt4, pt5, pt6, pt7]; rfl) ?_) | (refine WC.seq ?_) | (refine WC.region ?_) | (refine WO.nil ?_) | (simp only [fl1, fl2, fl3, fl4, fl5, fl6, fl7, fl8, fl9, fl10, Nat.reduceBEq]) | (refine WC.drawT ?_) | (refine WT.nil ?_) | (refine WT.free rfl (by intro; simp (disch := omega) only [go_sem, zeros, List.append_assoc, List.length_append, ov_all6, ov_one0, ov_all2, Nat.reduceAdd, Nat.reduceMul, Nat.reduceSub, Nat.reduceLeDiff, Nat.reduceEqDiff, Int.reduceNeg, Int.reduceAdd, Int.reduceToNat, reduceIte, reduceCtorEq, hvv.at, cut6, cut3z, V6.cells, hXc, hmin, Option.bind_eq_bind, lk0, lk1, st0, st1, k0, look_left]; rfl) rfl (by simp only [pt8, pt0, pt1, pt2, pt3, pt4, pt5, pt6, pt7]; rfl) ?_) | (refine WT.big rfl rfl (by intro; simp (disch := omega) only [go_sem, zeros, List.append_assoc, List.length_append, ov_all6, ov_one0, ov_all2, Nat.reduceAdd, Nat.reduceMul, Nat.reduceSub, Nat.reduceLeDiff, Nat.reduceEqDiff, Int.reduceNeg, Int.reduceAdd, Int.reduceToNat, reduceIte, reduceCtorEq, hvv.at, cut6, cut3z, V6.cells, hXc, hmin, Option.bind_eq_bind, lk0, lk1, st0, st1, k0, look_left]; rfl) (by simp (disch := omega) only [go_sem, zeros, List.append_assoc, List.length_append, ov_all6, ov_one0, ov_all2, Nat.reduceAdd, Nat.reduceMul, Nat.reduceSub, Nat.reduceLeDiff, Nat.reduceEqDiff, Int.reduceNeg, Int.reduceAdd, Int.reduceToNat, reduceIte, reduceCtorEq, hvv.at, cut6, cut3z, V6.cells, hXc, hmin, Option.bind_eq_bind, lk0, lk1, st0, st1, k0, look_left, touch]; rfl) (by first | exact .inl rfl | exact .inr (apart_nil _) | exact .inr trivial | (right; apply apart_mk; simp only [apartL, List.nil_append, List.cons_append, List.getElem?_cons_succ, List.getElem?_cons_zero, Tch.free, and_true, true_and]; first | done | omega)) (by simp only [pt8, pt0, pt1, pt2, pt3, pt4, pt5, pt6, pt7]; rfl) ?_) | (refine WC.no rfl ?_) | (refine WC.skip ?_) | (refine WC.block ?_) | (refine WO.em2 rfl (by intro hp; simp only [hp, decide_true]; rfl) (by intro hp; simp only [hp, decide_false]; rfl) (fun hp => ?_) (fun hp => ?_) <;> try (exfalso; first | omega | contradiction)) | (refine WC.em2 rfl (fun hp => ?_) (fun hp => ?_) <;> try (exfalso; first | omega | contradiction)))
        all_goals
          refine ⟨m - 1, by omega, _, _, i + 1, v', q', rfl, rfl, rfl, rfl, rfl, ?_, rfl, rfl, rfl, by omega, ?_, a1, ?_, fun j hj => by
            by_cases e : j = i
            · subst e; exact hok
            · exact hoks j (by omega)⟩
          · simp only [gt8, gt0, gt1, gt2, gt3, gt4, gt5, gt6, gt7, AV.bool.injEq]
            first
              | (symm
                 rw [decide_eq_true_iff]
                 exact ex_succ.2 (.inl ‹∃ j, j < i ∧ LS.getD j [] = []›))
              | (rw [decide_eq_decide]
                 exact ⟨fun h => ex_succ.2 (.inr (List.length_eq_zero_iff.1 (by omega))), fun h => (ex_succ.1 h).elim (fun h => absurd h ‹¬ ∃ j, j < i ∧ LS.getD j [] = []›) (fun h => by rw [h]; rfl)⟩)
          · rw [look_of_get (hkk 0 (by omega) (by omega))]; exact k0
          · rcases a2 with rfl | rfl
            · exact hq1
            · first | (simp; done) | (simp; omega) | omega
      · rw [if_neg hok] at hX36
        rw [hbad fun h => hok (h.at hin)]
        repeat' (first | (refine WO.opE (by intro; simp (disch := omega) only [go_sem, zeros, List.append_assoc, List.length_append, ov_all6, ov_one0, ov_all2, Nat.reduceAdd, Nat.reduceMul, Nat.reduceSub, Nat.reduceLeDiff, Nat.reduceEqDiff, Int.reduceNeg, Int.reduceAdd, Int.reduceToNat, reduceIte, reduceCtorEq, hvv.at, cut6, cut3z, V6.cells, k0]; rfl) (by simp only [pt8, pt0, pt1, pt2, pt3, pt4, pt5, pt6, pt7]; rfl) ?_) | (refine WO.opE (by intro; exact ev_lenS (by simp only [go_sem]; first | rfl | assumption)) (by simp only [pt8, pt0, pt1, pt2, pt3, pt4, pt5, pt6, pt7]; rfl) ?_) | (refine WT.spec rfl rfl (fun V => hX36 _) (by simp only [pt8, pt0, pt1, pt2, pt3, pt4, pt5, pt6, pt7]; rfl) ?_) | (refine WC.seq ?_) | (refine WC.region ?_) | (refine WO.nil ?_) | (simp only [fl1, fl2, fl3, fl4, fl5, fl6, fl7, fl8, fl9, fl10, Nat.reduceBEq]) | (refine WC.drawT ?_) | (refine WT.nil ?_) | (refine WT.free rfl (by intro; simp (disch := omega) only [go_sem, zeros, List.append_assoc, List.length_append, ov_all6, ov_one0, ov_all2, Nat.reduceAdd, Nat.reduceMul, Nat.reduceSub, Nat.reduceLeDiff, Nat.reduceEqDiff, Int.reduceNeg, Int.reduceAdd, Int.reduceToNat, reduceIte, reduceCtorEq, hvv.at, cut6, cut3z, V6.cells, k0]; rfl) rfl (by simp only [pt8, pt0, pt1, pt2, pt3, pt4, pt5, pt6, pt7]; rfl) ?_) | (refine WT.big rfl rfl (by intro; simp (disch := omega) only [go_sem, zeros, List.append_assoc, List.length_append, ov_all6, ov_one0, ov_all2, Nat.reduceAdd, Nat.reduceMul, Nat.reduceSub, Nat.reduceLeDiff, Nat.reduceEqDiff, Int.reduceNeg, Int.reduceAdd, Int.reduceToNat, reduceIte, reduceCtorEq, hvv.at, cut6, cut3z, V6.cells, k0]; rfl) (by simp (disch := omega) only [go_sem, zeros, List.append_assoc, List.length_append, ov_all6, ov_one0, ov_all2, Nat.reduceAdd, Nat.reduceMul, Nat.reduceSub, Nat.reduceLeDiff, Nat.reduceEqDiff, Int.reduceNeg, Int.reduceAdd, Int.reduceToNat, reduceIte, reduceCtorEq, hvv.at, cut6, cut3z, V6.cells, k0, touch]; rfl) (by first | exact .inl rfl | exact .inr (apart_nil _) | exact .inr trivial | (right; apply apart_mk; simp only [apartL, List.nil_append, List.cons_append, List.getElem?_cons_succ, List.getElem?_cons_zero, Tch.free, and_true, true_and]; first | done | omega)) (by simp only [pt8, pt0, pt1, pt2, pt3, pt4, pt5, pt6, pt7]; rfl) ?_) | (refine WC.yes rfl ?_) | (refine WC.skip ?_) | (refine WC.ret ?_) | (refine WC.block ?_) | (refine WC.em2 rfl (fun hp => ?_) (fun hp => ?_) <;> try (exfalso; first | omega | contradiction)))
        exact ⟨_, rfl, _, rfl, fun h => (by cases h), fun _ => rfl⟩
    · have hi' : i = vs.length := by omega
      subst hi'
      have hvs : okVs vs := fun v hv' => by
        obtain ⟨j, hj, rfl⟩ := List.getElem_of_mem hv'
        rw [← nv_lt hj]
        exact hoks j hj
      have hce := hce hvs
      have hpi := hpb vs.length h3
      clear hm
      by_cases hnone : ∃ j, j < vs.length ∧ LS.getD j [] = []
      · rw [if_pos hnone] at hce
        rw [hce]
        simp only [decide_eq_true hnone]
        repeat' (first | (refine WO.opE (by intro; simp (disch := omega) only [go_sem, zeros, List.append_assoc, List.length_append, ov_all6, ov_one0, ov_all2, Nat.reduceAdd, Nat.reduceMul, Nat.reduceSub, Nat.reduceLeDiff, Nat.reduceEqDiff, Int.reduceNeg, Int.reduceAdd, Int.reduceToNat, reduceIte, reduceCtorEq]; rfl) (by simp only [pt8, pt0, pt1, pt2, pt3, pt4, pt5, pt6, pt7]; rfl) ?_) | (refine WO.opE (by intro; exact ev_lenS (by simp only [go_sem]; first | rfl | assumption)) (by simp only [pt8, pt0, pt1, pt2, pt3, pt4, pt5, pt6, pt7]; rfl) ?_) | (refine WC.seq ?_) | (refine WC.region ?_) | (refine WO.nil ?_) | (simp only [fl1, fl2, fl3, fl4, fl5, fl6, fl7, fl8, fl9, fl10, Nat.reduceBEq]) | (refine WC.yes rfl ?_) | (refine WC.exit ?_) | (refine WC.ret ?_) | (refine WC.em2 rfl (fun hp => ?_) (fun hp => ?_) <;> try (exfalso; first | omega | contradiction)))
        exact ⟨_, rfl, _, rfl, fun h => (by cases h), fun _ => rfl⟩
      · rw [if_neg hnone, if_neg (by omega)] at hce
        simp only [decide_eq_false hnone]
        rw [hpL]
        rw [hpL] at hpi
        have hne : ∀ j, j < vs.length → LS.getD j [] ≠ [] := fun j hj h => hnone ⟨j, hj, h⟩
        have hX2 : ∀ j, j < vs.length → IntS (X j) (LS.getD j []) := fun j hj => (hX j hj).1 (hoks j hj)
        have hlk : vs.length ≠ 0 → ∃ g, v = .sref q g 0 1 vs.length none ∧ Zz.look H q g = some ((List.range vs.length).map X) := fun h0 => by
          obtain ⟨g, n, rfl, d1, d2, d3⟩ := hg.ref (by intro e; rw [List.map_eq_nil_iff, List.range_eq_nil] at e; exact h0 e)
          have hn : n = vs.length := by simpa using d1.symm
          subst hn
          exact ⟨g, rfl, d2⟩
        clear hg hX hoks hbad
        repeat' (first | (refine WO.opE (by intro; simp (disch := omega) only [go_sem, zeros, List.append_assoc, List.length_append, ov_all6, ov_one0, ov_all2, Nat.reduceAdd, Nat.reduceMul, Nat.reduceSub, Nat.reduceLeDiff, Nat.reduceEqDiff, Int.reduceNeg, Int.reduceAdd, Int.reduceToNat, reduceIte, reduceCtorEq]; rfl) (by simp only [pt8, pt0, pt1, pt2, pt3, pt4, pt5, pt6, pt7]; rfl) ?_) | (refine WO.opE (by intro; exact ev_lenS (by simp only [go_sem]; first | rfl | assumption)) (by simp only [pt8, pt0, pt1, pt2, pt3, pt4, pt5, pt6, pt7]; rfl) ?_) | (refine WC.seq ?_) | (refine WC.region ?_) | (refine WO.nil ?_) | (simp only [fl1, fl2, fl3, fl4, fl5, fl6, fl7, fl8, fl9, fl10, Nat.reduceBEq]) | (refine WC.no rfl ?_) | (refine WC.skip ?_) | (refine WC.exit ?_) | (refine WC.block ?_) | (refine WC.em2 rfl (fun hp => ?_) (fun hp => ?_) <;> try (exfalso; first | omega | contradiction)))
        refine WC.loopI (fun m s => ∃ T G n, s = ⟨T, G, []⟩ ∧ T.length = 118 ∧ gt T 1 = vv ∧ gt T 2 = .int .i64 w ∧ gt T 3 = .pref 0 0 0 ∧ gt T 11 = .int .i64 (prodL LS : Nat) ∧ gt T 12 = v ∧ gt T 16 = .int .i64 (n : Nat) ∧ m + n = prodL LS ∧ Zz.look G 0 0 = some [pv, .int .i64 sup, .int .i64 tol] ∧ (vs.length ≠ 0 → ∃ g, v = .sref q g 0 1 vs.length none ∧ Zz.look G q g = some ((List.range vs.length).map X)) ∧ ∀ j, j < n → ¬ playsR ps sup tol vs (enumL LS j) w) ?_ (prodL LS) _ ⟨_, H, 0, rfl, rfl, rfl, rfl, rfl, rfl, rfl, rfl, by omega, k0, hlk, fun j hj => by omega⟩
        clear hlk k0
        rintro m _ ⟨T, G, n, rfl, hT, g1, g2, g3, g11, g12, g16, hm, k0, hlk, hno⟩
        obtain ⟨f, rfl⟩ := ex118 hT
        clear hT
        replace g1 : f 1 = vv := g1
        replace g2 : f 2 = .int .i64 w := g2
        replace g3 : f 3 = .pref 0 0 0 := g3
        replace g11 : f 11 = .int .i64 (prodL LS : Nat) := g11
        replace g12 : f 12 = v := g12
        replace g16 : f 16 = .int .i64 (n : Nat) := g16
        simp only [g1, g2, g3, g11, g12, g16]
        have l0 := look_lt k0
        by_cases hnP : n < prodL LS
        · have hk : ∀ call T' l c, l.ev T' = .int .i64 (vs.length : Nat) → c.ev T' = .int .i64 (vs.length : Nat) → evOp call T' ⟨G, []⟩ (.makeSlice 1 8 [.int .i64 0] l c) = some (.sref G.length 0 0 1 vs.length (some vs.length), ⟨G ++ [some ⟨0, (List.replicate vs.length (0 : Int)).map (.int .i64)⟩], []⟩) := fun call T' l c h1 h2 => by
            rw [ev_makeSlice, h1, h2]
            show (if _ then _ else _) = _
            rw [if_pos ⟨by omega, by omega, by omega, by omega⟩, ← zeros_i]
            rfl
          repeat' (first | (refine WO.opE (by intro; simp (disch := omega) only [go_sem, zeros, List.append_assoc, List.length_append, ov_all6, ov_one0, ov_all2, Nat.reduceAdd, Nat.reduceMul, Nat.reduceSub, Nat.reduceLeDiff, Nat.reduceEqDiff, Int.reduceNeg, Int.reduceAdd, Int.reduceToNat, reduceIte, reduceCtorEq]; rfl) (by simp only [pt8, pt0, pt1, pt2, pt3, pt4, pt5, pt6, pt7]; rfl) ?_) | (refine WO.opE (by intro; exact ev_lenS (by simp only [go_sem]; first | rfl | assumption)) (by simp only [pt8, pt0, pt1, pt2, pt3, pt4, pt5, pt6, pt7]; rfl) ?_) | (refine WO.opE (by intro; exact hk _ _ _ _ rfl rfl) (by simp only [pt8, pt0, pt1, pt2, pt3, pt4, pt5, pt6, pt7]; rfl) ?_) | (refine WC.seq ?_) | (refine WC.region ?_) | (refine WO.nil ?_) | (simp only [fl1, fl2, fl3, fl4, fl5, fl6, fl7, fl8, fl9, fl10, Nat.reduceBEq]) | (refine WC.skip ?_) | (refine WC.block ?_) | (refine WC.em2 rfl (fun hp => ?_) (fun hp => ?_) <;> try (exfalso; first | omega | contradiction)))
          have hd0 : LS.drop vs.length = [] := List.drop_eq_nil_of_le (by omega)
          refine WC.loopI (fun m1 s => ∃ T t j, s = ⟨T, G ++ [some ⟨0, t.map (.int .i64)⟩], []⟩ ∧ T.length = 118 ∧ gt T 1 = vv ∧ gt T 2 = .int .i64 w ∧ gt T 3 = .pref 0 0 0 ∧ gt T 11 = .int .i64 (prodL LS : Nat) ∧ gt T 12 = v ∧ gt T 16 = .int .i64 (n : Nat) ∧ gt T 17 = .sref G.length 0 0 1 vs.length (some vs.length) ∧ gt T 18 = .int .i64 (n / prodL (LS.drop j) : Nat) ∧ gt T 19 = .int .i64 ((j : Nat) - 1) ∧ m1 = j ∧ j ≤ vs.length ∧ t.length = vs.length ∧ t.drop j = enumL (LS.drop j) (n % prodL (LS.drop j))) ?_ vs.length _ ⟨_, List.replicate vs.length 0, vs.length, rfl, rfl, rfl, rfl, rfl, rfl, rfl, rfl, rfl, by
            simp only [gt8, gt0, gt1, gt2, gt3, gt4, gt5, gt6, gt7]
            rw [hd0]
            simp [prodL], rfl, rfl, Nat.le_refl _, by simp, by rw [hd0]; simp [enumL]⟩
          rintro m1 _ ⟨T, t, j, rfl, hT, g1, g2, g3, g11, g12, g16, g17, g18, g19, hmj, hj, ht, hdrop⟩
          obtain ⟨f, rfl⟩ := ex118 hT
          clear hT
          replace g1 : f 1 = vv := g1
          replace g2 : f 2 = .int .i64 w := g2
          replace g3 : f 3 = .pref 0 0 0 := g3
          replace g11 : f 11 = .int .i64 (prodL LS : Nat) := g11
          replace g12 : f 12 = v := g12
          replace g16 : f 16 = .int .i64 (n : Nat) := g16
          replace g17 : f 17 = .sref G.length 0 0 1 vs.length (some vs.length) := g17
          replace g18 : f 18 = .int .i64 (n / prodL (LS.drop j) : Nat) := g18
          replace g19 : f 19 = .int .i64 ((j : Nat) - 1) := g19
          simp only [g1, g2, g3, g11, g12, g16, g17, g18, g19]
          by_cases hj0 : j = 0
          · subst hj0
            have htE : t = enumL LS n := by
              rw [List.drop_zero, List.drop_zero, Nat.mod_eq_of_lt hnP] at hdrop
              exact hdrop
            have hby : ∀ X : Hp, Zz.byVal (G ++ some ⟨0, t.map (.int .i64)⟩ :: X) (.sref G.length 0 0 1 vs.length (some vs.length)) = some (.sval (some vs.length == some vs.length) vs.length (t.map (.int .i64))) := fun X => byVal_ids (lk0 rfl) ht.symm (by rw [List.length_map]; omega) (List.take_of_length_le (by rw [List.length_map]; omega))
            have hit : IntS (.sval (some vs.length == some vs.length) vs.length (t.map (.int .i64))) t := by
              have := IntS.mk t (some vs.length == some vs.length)
              rwa [ht] at this
            have h22 := s22x (w := w) (m := ⟨G ++ [some ⟨0, t.map (.int .i64)⟩], []⟩) hq hit hvv (by omega) hvs hv hw (by omega) (hby [])
            by_cases hpl : playsR ps sup tol vs t w
            · rw [decide_eq_true hpl] at h22
              rw [hfirst n hnP (by rw [← htE]; exact hpl) hno] at hce
              have hce' : chordE ps sup tol vs w = 0 := hce
              rw [hce']
              repeat' (first | (refine WO.opE (by intro; simp (disch := omega) only [go_sem, zeros, List.append_assoc, List.length_append, ov_all6, ov_one0, ov_all2, Nat.reduceAdd, Nat.reduceMul, Nat.reduceSub, Nat.reduceLeDiff, Nat.reduceEqDiff, Int.reduceNeg, Int.reduceAdd, Int.reduceToNat, reduceIte, reduceCtorEq, k0, look_left, cut3z]; rfl) (by simp only [pt8, pt0, pt1, pt2, pt3, pt4, pt5, pt6, pt7]; rfl) ?_) | (refine WO.specE rfl rfl (h22) (by simp only [pt8, pt0, pt1, pt2, pt3, pt4, pt5, pt6, pt7]; rfl) ?_) | (refine WC.seq ?_) | (refine WC.region ?_) | (refine WO.nil ?_) | (simp only [fl1, fl2, fl3, fl4, fl5, fl6, fl7, fl8, fl9, fl10, Nat.reduceBEq]) | (refine WC.yes rfl ?_) | (refine WC.no rfl ?_) | (refine WC.exit ?_) | (refine WC.ret ?_))
              exact ⟨_, rfl, _, res2 (resC_ints (cap := some vs.length) (lk0 rfl) ht), fun _ => ⟨enumL LS n, hfirst n hnP (by rw [← htE]; exact hpl) hno, by rw [← htE]; exact hit⟩, fun h => absurd rfl h⟩
            · rw [decide_eq_false hpl] at h22
              repeat' (first | (refine WO.opE (by intro; simp (disch := omega) only [go_sem, zeros, List.append_assoc, List.length_append, ov_all6, ov_one0, ov_all2, Nat.reduceAdd, Nat.reduceMul, Nat.reduceSub, Nat.reduceLeDiff, Nat.reduceEqDiff, Int.reduceNeg, Int.reduceAdd, Int.reduceToNat, reduceIte, reduceCtorEq, k0, look_left, cut3z]; rfl) (by simp only [pt8, pt0, pt1, pt2, pt3, pt4, pt5, pt6, pt7]; rfl) ?_) | (refine WO.specE rfl rfl (h22) (by simp only [pt8, pt0, pt1, pt2, pt3, pt4, pt5, pt6, pt7]; rfl) ?_) | (refine WC.seq ?_) | (refine WC.region ?_) | (refine WO.nil ?_) | (simp only [fl1, fl2, fl3, fl4, fl5, fl6, fl7, fl8, fl9, fl10, Nat.reduceBEq]) | (refine WC.no rfl ?_) | (refine WC.skip ?_) | (refine WC.exit ?_))
              exact ⟨m - 1, by omega, _, _, n + 1, rfl, rfl, rfl, rfl, rfl, rfl, rfl, rfl, by omega, by rw [look_left (by omega)]; exact k0, fun h0 => by
                obtain ⟨g, e, h⟩ := hlk h0
                exact ⟨g, e, by rw [look_left (look_lt h)]; exact h⟩, fun j hj => by
                by_cases e : j = n
                · subst e; rw [← htE]; exact hpl
                · exact hno j (by omega)⟩
          · obtain ⟨jj, rfl⟩ : ∃ jj, j = jj + 1 := ⟨j - 1, by omega⟩
            have hjl : jj < vs.length := by omega
            have e19 : (((jj + 1 : Nat) : Int) - 1) = (jj : Int) := by omega
            simp only [e19]
            obtain ⟨g, rfl, hlq⟩ := hlk (by omega)
            have hlq' := look_lt hlq
            have hcell : ((List.range vs.length).map X)[jj]? = some (X jj) := by simp [hjl]
            have hXi := hX2 jj hjl
            have hXl := hXi.len
            have hlen0 : 0 < (LS.getD jj []).length := List.length_pos_iff.2 (hne jj hjl)
            have hdj := drop_getD (LS := LS) (j := jj) (by omega)
            have hr := rem_ok (a := n / prodL (LS.drop (jj + 1))) hlen0
            have hqo := quo_ok (a := n / prodL (LS.drop (jj + 1))) hlen0 (by have := Nat.div_le_self n (prodL (LS.drop (jj + 1))); omega)
            have hmod := Nat.mod_lt (n / prodL (LS.drop (jj + 1))) hlen0
            have hpp : 0 < prodL (LS.drop (jj + 1)) := by
              rcases Nat.eq_zero_or_pos (prodL (LS.drop (jj + 1))) with h | h
              · exact absurd (prodL_pos (LS := LS.drop (jj + 1)) fun j hj => by
                  rw [List.length_drop] at hj
                  have := hne (jj + 1 + j) (by omega)
                  rwa [List.getD_eq_getElem?_getD, ← List.getElem?_drop, ← List.getD_eq_getElem?_getD] at this) (by omega)
              · exact h
            have hstep := enum_step (l := LS.getD jj []) (n := n) hpp
            have hrest : n / prodL (LS.drop (jj + 1)) / (LS.getD jj []).length = n / prodL (LS.drop jj) := by
              rw [hdj, Nat.div_div_eq_div_mul]
              simp only [prodL]
              rw [Nat.mul_comm]
            have hpd : prodL (LS.drop jj) = (LS.getD jj []).length * prodL (LS.drop (jj + 1)) := by rw [hdj]; rfl
            rw [hrest] at hqo
            rw [← hdj, ← hpd, ← hdrop] at hstep
            generalize n / prodL (LS.drop (jj + 1)) = nq at *
            generalize nq % (LS.getD jj []).length = r at *
            repeat' (first | (refine WO.opE (by intro; simp (disch := omega) only [go_sem, zeros, List.append_assoc, List.length_append, ov_all6, ov_all2, Nat.reduceAdd, Nat.reduceMul, Nat.reduceSub, Nat.reduceLeDiff, Nat.reduceEqDiff, Int.reduceNeg, Int.reduceAdd, Int.reduceToNat, reduceIte, reduceCtorEq, k0, hlq, look_left, ia_sref, hcell, hXi.atI, Nat.mul_one, int_over, lk0, st0]; rfl) (by simp only [pt8, pt0, pt1, pt2, pt3, pt4, pt5, pt6, pt7]; rfl) ?_) | (refine WO.opN (by intro; simp (disch := omega) only [go_sem, zeros, List.append_assoc, List.length_append, ov_all6, ov_all2, Nat.reduceAdd, Nat.reduceMul, Nat.reduceSub, Nat.reduceLeDiff, Nat.reduceEqDiff, Int.reduceNeg, Int.reduceAdd, Int.reduceToNat, reduceIte, reduceCtorEq, k0, hlq, look_left, ia_sref, hcell, hXi.atI, Nat.mul_one, int_over, lk0, st0]; rfl) ?_) | (refine WO.opE (by intro; exact ev_lenS (by simp only [go_sem]; first | rfl | assumption)) (by simp only [pt8, pt0, pt1, pt2, pt3, pt4, pt5, pt6, pt7]; rfl) ?_) | (refine WO.opE (by intro; simp only [ev_bin, Opd.ev, gt8, gt0, gt1, gt2, gt3, gt4, gt5, gt6, gt7, hr, Option.map_some]; rfl) (by simp only [pt8, pt0, pt1, pt2, pt3, pt4, pt5, pt6, pt7]; rfl) ?_) | (refine WO.opE (by intro; simp only [ev_bin, Opd.ev, gt8, gt0, gt1, gt2, gt3, gt4, gt5, gt6, gt7, hqo, Option.map_some]; rfl) (by simp only [pt8, pt0, pt1, pt2, pt3, pt4, pt5, pt6, pt7]; rfl) ?_) | (refine WC.seq ?_) | (refine WC.region ?_) | (refine WO.nil ?_) | (simp only [fl1, fl2, fl3, fl4, fl5, fl6, fl7, fl8, fl9, fl10, Nat.reduceBEq]) | (refine WC.calm rfl ?_) | (refine WC.yes rfl ?_) | (refine WC.skip ?_) | (refine WC.block ?_))
            exact ⟨jj, by omega, _, t.set jj ((LS.getD jj []).getD r 0), jj, rfl, rfl, rfl, rfl, rfl, rfl, rfl, rfl, rfl, rfl, rfl, rfl, by omega, by simpa using ht, by rw [drop_set (by omega), hstep]⟩
        · have hnn : n = prodL LS := by omega
          subst hnn
          rw [hnever hno] at hce
          have hce' : chordE ps sup tol vs w = 21 := hce
          rw [hce']
          repeat' (first | (refine WO.opE (by intro; simp (disch := omega) only [go_sem, zeros, List.append_assoc, List.length_append, ov_all6, ov_one0, ov_all2, Nat.reduceAdd, Nat.reduceMul, Nat.reduceSub, Nat.reduceLeDiff, Nat.reduceEqDiff, Int.reduceNeg, Int.reduceAdd, Int.reduceToNat, reduceIte, reduceCtorEq]; rfl) (by simp only [pt8, pt0, pt1, pt2, pt3, pt4, pt5, pt6, pt7]; rfl) ?_) | (refine WC.seq ?_) | (refine WC.region ?_) | (refine WO.nil ?_) | (simp only [fl1, fl2, fl3, fl4, fl5, fl6, fl7, fl8, fl9, fl10, Nat.reduceBEq]) | (refine WC.exit ?_) | (refine WC.ret ?_) | (refine WC.em2 rfl (fun hp => ?_) (fun hp => ?_) <;> try (exfalso; first | omega | contradiction)))
          exact ⟨_, rfl, _, rfl, fun h => (by cases h), fun _ => rfl⟩
  · have he : chordE ps sup tol vs w = 1 := if_neg fun h => hvw ⟨h.1, h.2.1⟩
    rw [he]
    by_cases hv : VO ps sup tol
    · have hw : ¬ (-100 ≤ w ∧ w ≤ 100) := fun h => hvw ⟨hv, h⟩
      rw [decide_eq_true hv] at h24
      refine WF.fnE rfl (fn_of Tryd.func33 cir33) (by show 3 ≤ 118; decide) ?_
      unfold ir33
      simp only [padTo, List.replicate, List.nil_append, List.append_nil, List.cons_append]
      repeat' (first | (refine WO.yes rfl ?_) | (refine WO.noE rfl (by simp only [pt8, pt0, pt1, pt2, pt3, pt4, pt5, pt6, pt7]; rfl) ?_) | (refine WO.opE (by intro; simp (disch := omega) only [go_sem, zeros, Zz.look, List.append_assoc, List.length_append, ov_one0, ov_all2, ov_all6, Nat.reduceAdd, Nat.reduceMul, Nat.reduceSub, Nat.reduceLeDiff, Nat.reduceEqDiff, Int.reduceNeg, Int.reduceAdd, Int.reduceToNat, reduceIte, reduceCtorEq]; rfl) (by simp only [pt8, pt0, pt1, pt2, pt3, pt4, pt5, pt6, pt7]; rfl) ?_) | (refine WO.specE rfl rfl (h24 _) (by simp only [pt8, pt0, pt1, pt2, pt3, pt4, pt5, pt6, pt7]; rfl) ?_) | (refine WO.specE rfl rfl (s63) (by simp only [pt8, pt0, pt1, pt2, pt3, pt4, pt5, pt6, pt7]; rfl) ?_) | (refine WC.seq ?_) | (refine WC.region ?_) | (refine WO.nil ?_) | (simp only [fl1, fl2, fl3, fl4, fl5, fl6, fl7, fl8, fl9, fl10, Nat.reduceBEq]) | (refine WC.yes rfl ?_) | (refine WC.ret ?_) | (refine WO.em2 rfl (by intro hp; simp only [hp, decide_true]; rfl) (by intro hp; simp only [hp, decide_false]; rfl) (fun hp => ?_) (fun hp => ?_) <;> try (exfalso; first | omega | contradiction)))
      all_goals exact ⟨_, rfl, _, rfl, fun h => (by cases h), fun _ => rfl⟩
    · rw [decide_eq_false hv] at h24
      refine WF.fnE rfl (fn_of Tryd.func33 cir33) (by show 3 ≤ 118; decide) ?_
      unfold ir33
      simp only [padTo, List.replicate, List.nil_append, List.append_nil, List.cons_append]
      repeat' (first | (refine WO.noE rfl (by simp only [pt8, pt0, pt1, pt2, pt3, pt4, pt5, pt6, pt7]; rfl) ?_) | (refine WO.opE (by intro; simp (disch := omega) only [go_sem, zeros, Zz.look, List.append_assoc, List.length_append, ov_one0, ov_all2, ov_all6, Nat.reduceAdd, Nat.reduceMul, Nat.reduceSub, Nat.reduceLeDiff, Nat.reduceEqDiff, Int.reduceNeg, Int.reduceAdd, Int.reduceToNat, reduceIte, reduceCtorEq]; rfl) (by simp only [pt8, pt0, pt1, pt2, pt3, pt4, pt5, pt6, pt7]; rfl) ?_) | (refine WO.specE rfl rfl (h24 _) (by simp only [pt8, pt0, pt1, pt2, pt3, pt4, pt5, pt6, pt7]; rfl) ?_) | (refine WO.specE rfl rfl (s63) (by simp only [pt8, pt0, pt1, pt2, pt3, pt4, pt5, pt6, pt7]; rfl) ?_) | (refine WC.seq ?_) | (refine WC.region ?_) | (refine WO.nil ?_) | (simp only [fl1, fl2, fl3, fl4, fl5, fl6, fl7, fl8, fl9, fl10, Nat.reduceBEq]) | (refine WC.yes rfl ?_) | (refine WC.ret ?_))
      all_goals exact ⟨_, rfl, _, rfl, fun h => (by cases h), fun _ => rfl⟩
theorem s33 {pv vv : AV} {ps : List Pipe} {vs : List V6} {sup tol w : Int} (hq : PpL pv ps) (hmax : ps.length < 9223372036854775807) (hvv : VL6 vv vs) (h3 : vs.length ≤ 3) (hLb : ∀ i, ((LSof ps tol vs).getD i []).length ≤ 10) :
    ∃ z, (∀ m, borrowE D15 33 [.agg [pv, .int .i64 sup, .int .i64 tol], vv, .int .i64 w] m = some (.tuple [z, .int .i64 (chordE ps sup tol vs w)], m)) ∧ (chordE ps sup tol vs w = 0 → ∃ r, findC ps sup tol vs w = some r ∧ IntS z r) ∧ (chordE ps sup tol vs w ≠ 0 → z = .snil) := by
  obtain ⟨n, y, m', h1, z, z1, z2, z3⟩ := (f33 (sup := sup) (w := w) hq hmax hvv h3 hLb).ex
  exact ⟨z, fun m => borrowE_of (pures_cons (pure3 hq.pureC) (pures_cons hvv.pureA (pures_cons rfl rfl))) ⟨⟨n, y, m', h1, z1⟩⟩, z2, z3⟩

noncomputable def D16 : Env := D15.put 33 (borrowE D15 33)
theorem D16_ok : EnvOk Tryd.prog D16 := Env.put_ok D15_ok (borrowE_ok D15_ok (callable Tryd.func33 (by kernel_rfl)))
end Go.Proofs.YtjbdefmhjmkifaaDoor

