import Derived.Test.YtjbdefmhjmkifaaDoorIr11xc10
import Derived.Test.YtjbdefmhjmkifaaDoorL11df

set_option linter.unusedSimpArgs false
set_option linter.unusedVariables false
namespace Go.Proofs.YtjbdefmhjmkifaaDoor
open Go.Zz
set_option maxRecDepth 100000
set_option maxHeartbeats 8000000
/-- The reference's Find. -/
theorem s69v {v : V6} {m : Mem} : borrowE E38 69 [.agg v.cells] m = some (.bool (decide (v.ok 48)), m) := s69
theorem f36 {pv : AV} {ps : List Pipe} {sup tol : Int} {w : V6} (hq : PpL pv ps) (hmax : ps.length < 9223372036854775807) (hv : VO ps sup tol) (hw : w.ok 48) :
    WF D12 (.func 36 [] []) [.agg [pv, .int .i64 sup, .int .i64 tol], .agg w.cells] ⟨[], []⟩ fun y m' => ∃ x, IntS x (findL ps tol w ps.length) ∧ resV m'.heap y = some (.tuple [x, .int .i64 0]) := by
  have hlen := hq.len
  have ht := hv.2.2.2
  have h120 := hv.2.1
  have h24 := fun m => s24 (sup := sup) (tol := tol) (m := m) hq hmax
  rw [decide_eq_true hv] at h24
  have h69 := fun m => s69v (v := w) (m := m)
  rw [decide_eq_true hw] at h69
  refine WF.fnE rfl (fn_of Tryd.func36 cir36) (by show 2 ≤ 47; decide) ?_
  unfold ir36
  simp only [padTo, List.replicate, List.nil_append, List.append_nil, List.cons_append]
  repeat' (first | (refine WO.yes rfl ?_) | (refine WO.opE (by intro; simp (disch := omega) only [go_sem, zeros, Zz.look, List.append_assoc, List.length_append, ov_one0, ov_all2, ov_all6, Nat.reduceAdd, Nat.reduceMul, Nat.reduceSub, Nat.reduceLeDiff, Nat.reduceEqDiff, Int.reduceNeg, Int.reduceAdd, Int.reduceToNat, reduceIte, reduceCtorEq, V6.cells, cut6]; rfl) (by simp only [pt8, pt0, pt1, pt2, pt3, pt4, pt5, pt6, pt7]; rfl) ?_) | (refine WO.specE rfl rfl (h24 _) (by simp only [pt8, pt0, pt1, pt2, pt3, pt4, pt5, pt6, pt7]; rfl) ?_) | (refine WO.specE rfl rfl (h69 _) (by simp only [pt8, pt0, pt1, pt2, pt3, pt4, pt5, pt6, pt7]; rfl) ?_) | (refine WC.seq ?_) | (refine WC.region ?_) | (refine WO.nil ?_) | (simp only [fl1, fl2, fl3, fl4, fl5, fl6, fl7, fl8, fl9, fl10, Nat.reduceBEq]) | (refine WC.no rfl ?_) | (refine WC.skip ?_) | (refine WC.block ?_))
  refine WC.loopI (fun m s => ∃ T H i v q, s = ⟨T, H, []⟩ ∧ T.length = 47 ∧ gt T 2 = .pref 0 0 0 ∧ gt T 3 = .pref 1 0 0 ∧ gt T 8 = v ∧ gt T 9 = .int .i64 (i : Nat) ∧ m + i = ps.length ∧ (Zz.look H 0 0 = some [pv, .int .i64 sup, .int .i64 tol] ∧ Zz.look H 1 0 = some w.cells) ∧ GS 1 H v q ((findL ps tol w i).map (.int .i64)) ∧ 2 ≤ q) ?_ ps.length _ ⟨_, _, 0, _, 2, rfl, rfl, rfl, rfl, rfl, rfl, by omega, ⟨rfl, rfl⟩, .inl ⟨rfl, rfl⟩, by omega⟩
  rintro m _ ⟨T, H, i, v, q, rfl, hT, g2, g3, g8, g9, hm, ⟨k0, k1⟩, hg, hq3⟩
  obtain ⟨f, rfl⟩ := ex47 hT
  clear hT
  replace g2 : f 2 = .pref 0 0 0 := g2
  replace g3 : f 3 = .pref 1 0 0 := g3
  replace g8 : f 8 = v := g8
  replace g9 : f 9 = .int .i64 (i : Nat) := g9
  simp only [g2, g3, g8, g9]
  have l0 := look_lt k1
  have hk1 : Zz.look H 1 0 = some [.int .i64 w.x0, .int .i64 w.x1, .int .i64 w.x2, .int .i64 w.x3, .int .i64 w.x4, .int .i64 w.x5] := k1
  by_cases hin : i < ps.length
  · have hpo := hv.pok' hin
    have h55 := fun m => s55 (m := m) (sup := sup) hq hpo hw ht.1 ht.2
    have hfl := findL_len (ps := ps) (tol := tol) (v := w) (i := i)
    by_cases hh : hasP (nth ps i) w tol
    · rw [decide_eq_true hh] at h55
      obtain ⟨v', q', H1, e1, a1, a2, a3, a4⟩ := (hg.more [some ⟨0, [.int .i64 (nth ps i).id]⟩]).append (L := []) (bytes := 8) (n := 1) (cap := some 1) (id := H.length) (lk0 rfl) rfl Nat.one_pos Nat.one_pos ⟨by rw [Nat.div_one]; simp; omega, by rw [Nat.div_one]; simp; omega⟩
      have hkk : ∀ j, j < H.length → j ≠ q → H1[j]? = H[j]? := fun j h1 h2 => by rw [a4 j (by simp; omega) h2, List.getElem?_append_left h1]
      have t1 : (findL ps tol w i).map (AV.int .i64) ++ [.int .i64 (nth ps i).id] = (findL ps tol w (i + 1)).map (.int .i64) := by rw [findL_yes hin hh]; simp
      rw [t1] at a1
      repeat' (first | (refine WO.opE (by intro; simp (disch := omega) only [go_sem, zeros, List.append_assoc, List.length_append, ov_all6, ov_one0, ov_all2, Nat.reduceAdd, Nat.reduceMul, Nat.reduceSub, Nat.reduceLeDiff, Nat.reduceEqDiff, Int.reduceNeg, Int.reduceAdd, Int.reduceToNat, reduceIte, reduceCtorEq, hq.at, cut10, cut6, cut3z, Pipe.cells, V6.cells, over10, lk0, lk1, st0, st1, k0, hk1, look_left]; rfl) (by simp only [pt8, pt0, pt1, pt2, pt3, pt4, pt5, pt6, pt7]; rfl) ?_) | (refine WO.opE (by intro; exact ev_lenS (by simp only [go_sem]; first | rfl | assumption)) (by simp only [pt8, pt0, pt1, pt2, pt3, pt4, pt5, pt6, pt7]; rfl) ?_) | (refine WT.spec rfl rfl (fun V => h55 _) (by simp only [pt8, pt0, pt1, pt2, pt3, pt4, pt5, pt6, pt7]; rfl) ?_) | (refine WO.opE (by intro; rw [ev_append]; exact e1) (by simp only [pt8, pt0, pt1, pt2, pt3, pt4, pt5, pt6, pt7]; rfl) ?_) | (refine WC.seq ?_) | (refine WC.region ?_) | (refine WO.nil ?_) | (simp only [fl1, fl2, fl3, fl4, fl5, fl6, fl7, fl8, fl9, fl10, Nat.reduceBEq]) | (refine WC.drawT ?_) | (refine WT.nil ?_) | (refine WT.free rfl (by intro; simp (disch := omega) only [go_sem, zeros, List.append_assoc, List.length_append, ov_all6, ov_one0, ov_all2, Nat.reduceAdd, Nat.reduceMul, Nat.reduceSub, Nat.reduceLeDiff, Nat.reduceEqDiff, Int.reduceNeg, Int.reduceAdd, Int.reduceToNat, reduceIte, reduceCtorEq, hq.at, cut10, cut6, cut3z, Pipe.cells, V6.cells, over10, lk0, lk1, st0, st1, k0, hk1, look_left]; rfl) rfl (by simp only [pt8, pt0, pt1, pt2, pt3, pt4, pt5, pt6, pt7]; rfl) ?_) | (refine WT.big rfl rfl (by intro; simp (disch := omega) only [go_sem, zeros, List.append_assoc, List.length_append, ov_all6, ov_one0, ov_all2, Nat.reduceAdd, Nat.reduceMul, Nat.reduceSub, Nat.reduceLeDiff, Nat.reduceEqDiff, Int.reduceNeg, Int.reduceAdd, Int.reduceToNat, reduceIte, reduceCtorEq, hq.at, cut10, cut6, cut3z, Pipe.cells, V6.cells, over10, lk0, lk1, st0, st1, k0, hk1, look_left]; rfl) (by simp (disch := omega) only [go_sem, zeros, List.append_assoc, List.length_append, ov_all6, ov_one0, ov_all2, Nat.reduceAdd, Nat.reduceMul, Nat.reduceSub, Nat.reduceLeDiff, Nat.reduceEqDiff, Int.reduceNeg, Int.reduceAdd, Int.reduceToNat, reduceIte, reduceCtorEq, hq.at, cut10, cut6, cut3z, Pipe.cells, V6.cells, over10, lk0, lk1, st0, st1, k0, hk1, look_left, touch]; rfl) (by first | exact .inl rfl | exact .inr (apart_nil _) | exact .inr trivial | (right; apply apart_mk; simp only [apartL, List.nil_append, List.cons_append, List.getElem?_cons_succ, List.getElem?_cons_zero, Tch.free, and_true, true_and]; first | done | omega)) (by simp only [pt8, pt0, pt1, pt2, pt3, pt4, pt5, pt6, pt7]; rfl) ?_) | (refine WC.yes rfl ?_) | (refine WC.skip ?_) | (refine WC.block ?_) | (refine WC.em2 rfl (fun hp => ?_) (fun hp => ?_) <;> try (exfalso; first | omega | contradiction)))
      refine ⟨m - 1, by omega, _, _, i + 1, v', q', rfl, rfl, rfl, rfl, rfl, rfl, by omega, ⟨?_, ?_⟩, a1, ?_⟩
      · rw [look_of_get (hkk 0 (by omega) (by omega))]; exact k0
      · rw [look_of_get (hkk 1 (by omega) (by omega))]; exact k1
      · rcases a2 with rfl | rfl
        · exact hq3
        · first | (simp; done) | (simp; omega)
    · rw [decide_eq_false hh] at h55
      have e1 := findL_no hin hh
      repeat' (first | (refine WO.opE (by intro; simp (disch := omega) only [go_sem, zeros, List.append_assoc, List.length_append, ov_all6, ov_one0, ov_all2, Nat.reduceAdd, Nat.reduceMul, Nat.reduceSub, Nat.reduceLeDiff, Nat.reduceEqDiff, Int.reduceNeg, Int.reduceAdd, Int.reduceToNat, reduceIte, reduceCtorEq, hq.at, cut10, cut6, cut3z, Pipe.cells, V6.cells, over10, lk0, lk1, st0, st1, k0, hk1, look_left]; rfl) (by simp only [pt8, pt0, pt1, pt2, pt3, pt4, pt5, pt6, pt7]; rfl) ?_) | (refine WO.opE (by intro; exact ev_lenS (by simp only [go_sem]; first | rfl | assumption)) (by simp only [pt8, pt0, pt1, pt2, pt3, pt4, pt5, pt6, pt7]; rfl) ?_) | (refine WT.spec rfl rfl (fun V => h55 _) (by simp only [pt8, pt0, pt1, pt2, pt3, pt4, pt5, pt6, pt7]; rfl) ?_) | (refine WC.seq ?_) | (refine WC.region ?_) | (refine WO.nil ?_) | (simp only [fl1, fl2, fl3, fl4, fl5, fl6, fl7, fl8, fl9, fl10, Nat.reduceBEq]) | (refine WC.drawT ?_) | (refine WT.nil ?_) | (refine WT.free rfl (by intro; simp (disch := omega) only [go_sem, zeros, List.append_assoc, List.length_append, ov_all6, ov_one0, ov_all2, Nat.reduceAdd, Nat.reduceMul, Nat.reduceSub, Nat.reduceLeDiff, Nat.reduceEqDiff, Int.reduceNeg, Int.reduceAdd, Int.reduceToNat, reduceIte, reduceCtorEq, hq.at, cut10, cut6, cut3z, Pipe.cells, V6.cells, over10, lk0, lk1, st0, st1, k0, hk1, look_left]; rfl) rfl (by simp only [pt8, pt0, pt1, pt2, pt3, pt4, pt5, pt6, pt7]; rfl) ?_) | (refine WT.big rfl rfl (by intro; simp (disch := omega) only [go_sem, zeros, List.append_assoc, List.length_append, ov_all6, ov_one0, ov_all2, Nat.reduceAdd, Nat.reduceMul, Nat.reduceSub, Nat.reduceLeDiff, Nat.reduceEqDiff, Int.reduceNeg, Int.reduceAdd, Int.reduceToNat, reduceIte, reduceCtorEq, hq.at, cut10, cut6, cut3z, Pipe.cells, V6.cells, over10, lk0, lk1, st0, st1, k0, hk1, look_left]; rfl) (by simp (disch := omega) only [go_sem, zeros, List.append_assoc, List.length_append, ov_all6, ov_one0, ov_all2, Nat.reduceAdd, Nat.reduceMul, Nat.reduceSub, Nat.reduceLeDiff, Nat.reduceEqDiff, Int.reduceNeg, Int.reduceAdd, Int.reduceToNat, reduceIte, reduceCtorEq, hq.at, cut10, cut6, cut3z, Pipe.cells, V6.cells, over10, lk0, lk1, st0, st1, k0, hk1, look_left, touch]; rfl) (by first | exact .inl rfl | exact .inr (apart_nil _) | exact .inr trivial | (right; apply apart_mk; simp only [apartL, List.nil_append, List.cons_append, List.getElem?_cons_succ, List.getElem?_cons_zero, Tch.free, and_true, true_and]; first | done | omega)) (by simp only [pt8, pt0, pt1, pt2, pt3, pt4, pt5, pt6, pt7]; rfl) ?_) | (refine WC.no rfl ?_) | (refine WC.skip ?_) | (refine WC.block ?_) | (refine WC.em2 rfl (fun hp => ?_) (fun hp => ?_) <;> try (exfalso; first | omega | contradiction)))
      exact ⟨m - 1, by omega, _, _, i + 1, v, q, rfl, rfl, rfl, rfl, rfl, rfl, by omega, ⟨k0, k1⟩, by rw [e1]; exact hg, hq3⟩
  · have hi' : i = ps.length := by omega
    subst hi'
    repeat' (first | (refine WO.opE (by intro; simp (disch := omega) only [go_sem, zeros, List.append_assoc, List.length_append, ov_all6, ov_one0, ov_all2, Nat.reduceAdd, Nat.reduceMul, Nat.reduceSub, Nat.reduceLeDiff, Nat.reduceEqDiff, Int.reduceNeg, Int.reduceAdd, Int.reduceToNat, reduceIte, reduceCtorEq, k0, cut3z]; rfl) (by simp only [pt8, pt0, pt1, pt2, pt3, pt4, pt5, pt6, pt7]; rfl) ?_) | (refine WO.opE (by intro; exact ev_lenS (by simp only [go_sem]; first | rfl | assumption)) (by simp only [pt8, pt0, pt1, pt2, pt3, pt4, pt5, pt6, pt7]; rfl) ?_) | (refine WC.seq ?_) | (refine WC.region ?_) | (refine WO.nil ?_) | (simp only [fl1, fl2, fl3, fl4, fl5, fl6, fl7, fl8, fl9, fl10, Nat.reduceBEq]) | (refine WC.exit ?_) | (refine WC.ret ?_) | (refine WC.em2 rfl (fun hp => ?_) (fun hp => ?_) <;> try (exfalso; first | omega | contradiction)))
    obtain ⟨x, x1, x2, x3⟩ := gs_res hg
    exact ⟨_, rfl, x, x1, res2 x2⟩
theorem f36bad {pv : AV} {ps : List Pipe} {sup tol : Int} {w : V6} (hq : PpL pv ps) (hmax : ps.length < 9223372036854775807) (h : ¬ (VO ps sup tol ∧ w.ok 48)) :
    WF D12 (.func 36 [] []) [.agg [pv, .int .i64 sup, .int .i64 tol], .agg w.cells] ⟨[], []⟩ fun y m' => y = .tuple [.snil, .int .i64 1] := by
  have h24 := fun m => s24 (sup := sup) (tol := tol) (m := m) hq hmax
  have h69 := fun m => s69v (v := w) (m := m)
  by_cases hv : VO ps sup tol
  · have hw : ¬ w.ok 48 := fun hw => h ⟨hv, hw⟩
    rw [decide_eq_true hv] at h24
    rw [decide_eq_false hw] at h69
    refine WF.fnE rfl (fn_of Tryd.func36 cir36) (by show 2 ≤ 47; decide) ?_
    unfold ir36
    simp only [padTo, List.replicate, List.nil_append, List.append_nil, List.cons_append]
    repeat' (first | (refine WO.yes rfl ?_) | (refine WO.opE (by intro; simp (disch := omega) only [go_sem, zeros, Zz.look, List.append_assoc, List.length_append, ov_one0, ov_all2, ov_all6, Nat.reduceAdd, Nat.reduceMul, Nat.reduceSub, Nat.reduceLeDiff, Nat.reduceEqDiff, Int.reduceNeg, Int.reduceAdd, Int.reduceToNat, reduceIte, reduceCtorEq, V6.cells, cut6]; rfl) (by simp only [pt8, pt0, pt1, pt2, pt3, pt4, pt5, pt6, pt7]; rfl) ?_) | (refine WO.specE rfl rfl (h24 _) (by simp only [pt8, pt0, pt1, pt2, pt3, pt4, pt5, pt6, pt7]; rfl) ?_) | (refine WO.specE rfl rfl (h69 _) (by simp only [pt8, pt0, pt1, pt2, pt3, pt4, pt5, pt6, pt7]; rfl) ?_) | (refine WC.seq ?_) | (refine WC.region ?_) | (refine WO.nil ?_) | (simp only [fl1, fl2, fl3, fl4, fl5, fl6, fl7, fl8, fl9, fl10, Nat.reduceBEq]) | (refine WC.yes rfl ?_) | (refine WC.ret ?_))
    exact ⟨_, rfl, rfl⟩
  · rw [decide_eq_false hv] at h24
    refine WF.fnE rfl (fn_of Tryd.func36 cir36) (by show 2 ≤ 47; decide) ?_
    unfold ir36
    simp only [padTo, List.replicate, List.nil_append, List.append_nil, List.cons_append]
    repeat' (first | (refine WO.noE rfl (by simp only [pt8, pt0, pt1, pt2, pt3, pt4, pt5, pt6, pt7]; rfl) ?_) | (refine WO.opE (by intro; simp (disch := omega) only [go_sem, zeros, Zz.look, List.append_assoc, List.length_append, ov_one0, ov_all2, ov_all6, Nat.reduceAdd, Nat.reduceMul, Nat.reduceSub, Nat.reduceLeDiff, Nat.reduceEqDiff, Int.reduceNeg, Int.reduceAdd, Int.reduceToNat, reduceIte, reduceCtorEq, V6.cells, cut6]; rfl) (by simp only [pt8, pt0, pt1, pt2, pt3, pt4, pt5, pt6, pt7]; rfl) ?_) | (refine WO.specE rfl rfl (h24 _) (by simp only [pt8, pt0, pt1, pt2, pt3, pt4, pt5, pt6, pt7]; rfl) ?_) | (refine WO.specE rfl rfl (h69 _) (by simp only [pt8, pt0, pt1, pt2, pt3, pt4, pt5, pt6, pt7]; rfl) ?_) | (refine WC.seq ?_) | (refine WC.region ?_) | (refine WO.nil ?_) | (simp only [fl1, fl2, fl3, fl4, fl5, fl6, fl7, fl8, fl9, fl10, Nat.reduceBEq]) | (refine WC.yes rfl ?_) | (refine WC.ret ?_))
    exact ⟨_, rfl, rfl⟩
theorem s36 {pv : AV} {ps : List Pipe} {sup tol : Int} {w : V6} (hq : PpL pv ps) (hmax : ps.length < 9223372036854775807) : ∃ x, (VO ps sup tol ∧ w.ok 48 → IntS x (findL ps tol w ps.length)) ∧ (¬ (VO ps sup tol ∧ w.ok 48) → x = .snil) ∧
    ∀ m, borrowE D12 36 [.agg [pv, .int .i64 sup, .int .i64 tol], .agg w.cells] m = some (.tuple [x, .int .i64 (if VO ps sup tol ∧ w.ok 48 then 0 else 1)], m) := by
  by_cases h : VO ps sup tol ∧ w.ok 48
  · obtain ⟨k, y, m', h1, x, x1, x2⟩ := (f36 hq hmax h.1 h.2).ex
    refine ⟨x, fun _ => x1, fun h' => absurd h h', fun m => ?_⟩
    rw [if_pos h]
    exact borrowE_of (pures_cons (pure3 hq.pureC) (pures_cons rfl rfl)) ⟨⟨k, y, m', h1, x2⟩⟩
  · refine ⟨.snil, fun h' => absurd h' h, fun _ => rfl, fun m => ?_⟩
    rw [if_neg h]
    exact borrowE_of (pures_cons (pure3 hq.pureC) (pures_cons rfl rfl)) ((f36bad hq hmax h).mono fun y m' h => by rw [h]; rfl)

noncomputable def D13 : Env := D12.put 36 (borrowE D12 36)
theorem D13_ok : EnvOk Tryd.prog D13 := Env.put_ok D12_ok (borrowE_ok D12_ok (callable Tryd.func36 (by kernel_rfl)))
end Go.Proofs.YtjbdefmhjmkifaaDoor

