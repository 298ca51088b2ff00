import Derived.Test.YtjbdefmhjmkifaaDoorIr11xc10
import Derived.Test.YtjbdefmhjmkifaaDoorL11dg

set_option linter.unusedSimpArgs false
set_option linter.unusedVariables false
namespace Go.Proofs.YtjbdefmhjmkifaaDoor
open Go.Zz
set_option maxRecDepth 100000
set_option maxHeartbeats 8000000
/-- The memory while pipes sound. -/
structure SndI (pv iv : AV) (ps : List Pipe) (ids : List Int) (sup tol la w : Int) (i : Nat) (H : Hp) (v : AV) (q : Nat) : Prop where
  k0 : Zz.look H 0 0 = some [pv, .int .i64 sup, .int .i64 tol]
  k1 : Zz.look H 1 0 = some [.int .i64 w]
  k2 : Zz.look H 2 0 = some [pv, .int .i64 sup, .int .i64 tol, iv, .int .i64 la]
  k3 : Zz.look H 3 0 = some [v]
  k4 : Zz.look H 4 0 = some [pv, .int .i64 sup, .int .i64 tol]
  k5 : Zz.look H 5 0 = some [iv]
  g : GS 2 H v q (flat2 (sndL ps ids la w i))
  q6 : 6 ≤ q
theorem SndI.more {pv iv : AV} {ps : List Pipe} {ids : List Int} {sup tol la w : Int} {i : Nat} {H : Hp} {v : AV} {q : Nat} (h : SndI pv iv ps ids sup tol la w i H v q) (R : Hp) : SndI pv iv ps ids sup tol la w i (H ++ R) v q := by
  have l5 := look_lt h.k5
  exact ⟨by rw [look_left (by omega)]; exact h.k0, by rw [look_left (by omega)]; exact h.k1, by rw [look_left (by omega)]; exact h.k2, by rw [look_left (by omega)]; exact h.k3, by rw [look_left (by omega)]; exact h.k4, by rw [look_left (by omega)]; exact h.k5, h.g.more R, h.q6⟩
/-- Sounds. -/
theorem f27 {pv iv : AV} {ps : List Pipe} {ids : List Int} {sup tol w : Int} (hq : PpL pv ps) (hmax : ps.length < 9223372036854775807) (hiv : IntS iv ids) (himax : ids.length < 9223372036854775807) :
    WF E38 (.func 27 [] []) [.agg [pv, .int .i64 sup, .int .i64 tol], iv, .int .i64 w] ⟨[], []⟩ fun y m' => ∃ x, PrL x (if setE ps sup tol ids w = 0 then sndL ps ids (lacks ps sup ids) w ids.length else []) ∧ resV m'.heap y = some (.tuple [x, .int .i64 (setE ps sup tol ids w)]) := by
  have hic := hiv.cells
  have hic2 := hic
  unfold AV.cells at hic2
  have h38 := fun m => s38 (sup := sup) (tol := tol) (warm := w) hq hmax hiv himax (m := m)
  by_cases h0 : setE ps sup tol ids w = 0
  · obtain ⟨hv, hw, hr, hh⟩ := setE_ok.1 h0
    have hl := ris_len hv hr hh
    have hlb := lacks_bnd hv (ids := ids) (by omega)
    have e1 : max 0 (dem ps ids - sup) = lacks ps sup ids := rfl
    rw [e1] at h38
    simp only [h0, if_true] at h38 ⊢
    generalize lacks ps sup ids = la at *
    refine WF.fnE rfl (fn_of Tryd.func27 cir27) (by show 3 ≤ 44; decide) ?_
    unfold ir27
    simp only [padTo, List.replicate, List.nil_append, List.append_nil, List.cons_append]
    repeat' (first | (refine WO.opE (by intro; simp (disch := omega) only [go_sem, zeros, Zz.look, List.append_assoc, List.length_append, ov_one0, ov_all2, ov_all6, Nat.reduceAdd, Nat.reduceMul, Nat.reduceSub, Nat.reduceLeDiff, Nat.reduceEqDiff, Int.reduceNeg, Int.reduceAdd, Int.reduceToNat, reduceIte, reduceCtorEq, List.map_cons, List.map_nil, over5, hic2]; rfl) (by simp only [pt8, pt0, pt1, pt2, pt3, pt4, pt5, pt6, pt7]; rfl) ?_) | (refine WO.opN (by intro; simp (disch := omega) only [go_sem, zeros, Zz.look, List.append_assoc, List.length_append, ov_one0, ov_all2, ov_all6, Nat.reduceAdd, Nat.reduceMul, Nat.reduceSub, Nat.reduceLeDiff, Nat.reduceEqDiff, Int.reduceNeg, Int.reduceAdd, Int.reduceToNat, reduceIte, reduceCtorEq, List.map_cons, List.map_nil, over5, hic2]; rfl) ?_) | (refine WO.specE rfl rfl (h38 _) (by simp only [pt8, pt0, pt1, pt2, pt3, pt4, pt5, pt6, pt7]; rfl) ?_) | (refine WO.callE rfl rfl (f39 (E := E38) rfl (fn_of Tryd.func39 cir39) (iv := iv) hic rfl) (by simp only [pt8, pt0, pt1, pt2, pt3, pt4, pt5, pt6, pt7]; rfl) ?_) | (refine WC.seq ?_) | (refine WC.region ?_) | (refine WO.nil ?_) | (simp only [fl1, fl2, fl3, fl4, fl5, fl6, fl7, fl8, fl9, fl10, Nat.reduceBEq]) | (refine WC.no rfl ?_) | (refine WC.skip ?_) | (refine WC.block ?_))
    refine WC.rangeFuncN rfl ((f70 (E := E38) (sup := sup) (tol := tol) (qi := 5) (qo := 4) (iv := iv) (ids := ids) rfl (fn_of Tryd.func70 cir70) rfl hq hmax (by omega) (fun i H => ∃ v q, SndI pv iv ps ids sup tol la w i H v q) (fun _ => False) ⟨_, 6, rfl, rfl, rfl, rfl, rfl, rfl, .inl ⟨rfl, rfl⟩, by omega⟩ ?_ ?_ ?_ ?_).mono ?_)
    · rintro i H ⟨v, q, h⟩
      exact ⟨intS_rd hiv _, h.k5, h.k4⟩
    · rintro i H b ⟨v, q, h⟩
      exact ⟨v, q, h.more _⟩
    · rintro i H hi1 hi2 _
      exact absurd (hh i hi1) hi2
    · rintro i H hi1 hi2 ⟨v, q, ⟨k0, k1, k2, k3, k4, k5, hg, hq6⟩⟩
      have l5 := look_lt k5
      have hat := (hv.at (ids.getD i 0)).2.2
      have hpok := hv.pok (ids.getD i 0)
      have h64 := fun m => s64 (m := m) hpok
      have h44 := fun m => s44 (m := m) (sup := sup) (tol := tol) (p := pipeOf ps (ids.getD i 0)) (l := la) (w := w) hq hiv hat hw (by omega)
      have hsb := snd_bnd hv (ids.getD i 0)
      have m1 := mul_bnd hat.2.2.1 hat.2.2.2 hw.1 hw.2
      have m2 := mul_bnd hat.1 hat.2.1 (b := la) (B := 1000000000) (by omega) (by omega)
      have hss := snd_succ (ps := ps) (l := la) (w := w) hi1
      unfold sndOf shiftOf at hss
      have hsl := flat2_len (sndL ps ids la w i)
      rw [snd_len (by omega)] at hsl
      generalize eLo (pipeOf ps (ids.getD i 0)).p.l 6 = lo at *
      generalize eHi (pipeOf ps (ids.getD i 0)).p.l 6 = hi at *
      generalize pipeOf ps (ids.getD i 0) = p at *
      generalize hsh : p.warm * w - p.sag * la = sh at *
      have h65 := fun m => s65 (lo := lo) (hi := hi) (k := sh) ⟨by omega, by omega, by omega, by omega, by omega, by omega⟩ (m := m)
      refine WF.yieldN rfl rfl ?_
      generalize hL1 : ([] ++ [_] : List (Option ALoop)).set _ _ = L1
      clear hL1
      simp only [setAll, pt8, pt0, pt1, pt2, pt3, pt4, pt5, pt6, pt7]
      obtain ⟨v', q', H1, e1, a1, a2, a3, a4⟩ := (hg.more [some ⟨0, p.cells⟩, some ⟨0, [.int .i64 lo, .int .i64 hi]⟩, some ⟨0, [.int .i64 (lo + sh), .int .i64 (hi + sh)]⟩]).append (L := L1) (bytes := 16) (n := 1) (cap := some 1) (id := H.length + 2) (lk2 rfl) rfl Nat.one_pos (by omega) ⟨by rw [hsl]; omega, by rw [hsl]; omega⟩
      have hkk : ∀ j, j < H.length → j ≠ q → H1[j]? = H[j]? := fun j h1 h2 => by rw [a4 j (by simp; omega) h2, List.getElem?_append_left h1]
      have t1 : flat2 (sndL ps ids la w i) ++ [.int .i64 (lo + sh), .int .i64 (hi + sh)] = flat2 (sndL ps ids la w (i + 1)) := by rw [hss, flat2_app]; rfl
      rw [t1] at a1
      have hvc : v'.cells = some [v'] := by rcases a1 with ⟨rfl, _⟩ | ⟨g, rfl, _⟩ | ⟨g, n, rfl, _⟩ <;> rfl
      unfold AV.cells at hvc
      have j3 : Zz.look H1 3 0 = some [v] := by rw [look_of_get (hkk 3 (by omega) (by omega))]; exact k3
      have hq6' : 6 ≤ q' := by
        rcases a2 with rfl | rfl
        · exact hq6
        · first | (simp; done) | (simp; omega)
      repeat' (first | (refine WO.opE (by intro; simp (disch := omega) only [go_sem, zeros, List.append_assoc, List.length_append, ov_all6, ov_one0, ov_all2, Nat.reduceAdd, Nat.reduceMul, Nat.reduceSub, Nat.reduceLeDiff, Nat.reduceEqDiff, Int.reduceNeg, Int.reduceAdd, Int.reduceToNat, reduceIte, reduceCtorEq, Pipe.cells, cut10, cutA, cut2z, over10, lk0, lk1, lk2, st0, st1, st2, k1, k2, k3, look_left]; rfl) (by simp only [pt8, pt0, pt1, pt2, pt3, pt4, pt5, pt6, pt7]; rfl) ?_) | (refine WO.opN (by intro; simp (disch := omega) only [go_sem, zeros, List.append_assoc, List.length_append, ov_all6, ov_one0, ov_all2, Nat.reduceAdd, Nat.reduceMul, Nat.reduceSub, Nat.reduceLeDiff, Nat.reduceEqDiff, Int.reduceNeg, Int.reduceAdd, Int.reduceToNat, reduceIte, reduceCtorEq, Pipe.cells, cut10, cutA, cut2z, over10, lk0, lk1, lk2, st0, st1, st2, k1, k2, k3, look_left]; rfl) ?_) | (refine WC.region ?_) | (refine WO.nil ?_) | (simp only [fl1, fl2, fl3, fl4, fl5, fl6, fl7, fl8, fl9, fl10, Nat.reduceBEq]))
      refine ⟨trivial, rfl, ?_⟩
      repeat' (first | (refine WO.opE (by intro; simp (disch := omega) only [go_sem, zeros, List.append_assoc, List.length_append, ov_all6, ov_one0, ov_all2, Nat.reduceAdd, Nat.reduceMul, Nat.reduceSub, Nat.reduceLeDiff, Nat.reduceEqDiff, Int.reduceNeg, Int.reduceAdd, Int.reduceToNat, reduceIte, reduceCtorEq, Pipe.cells, cut10, cutA, cut2z, over10, lk0, lk1, lk2, st0, st1, st2, k1, k2, k3, look_left, j3, hvc]; rfl) (by simp only [pt8, pt0, pt1, pt2, pt3, pt4, pt5, pt6, pt7]; rfl) ?_) | (refine WO.opN (by intro; simp (disch := omega) only [go_sem, zeros, List.append_assoc, List.length_append, ov_all6, ov_one0, ov_all2, Nat.reduceAdd, Nat.reduceMul, Nat.reduceSub, Nat.reduceLeDiff, Nat.reduceEqDiff, Int.reduceNeg, Int.reduceAdd, Int.reduceToNat, reduceIte, reduceCtorEq, Pipe.cells, cut10, cutA, cut2z, over10, lk0, lk1, lk2, st0, st1, st2, k1, k2, k3, look_left, j3, hvc]; rfl) ?_) | (refine WO.specE rfl rfl (h64 _) (by simp only [pt8, pt0, pt1, pt2, pt3, pt4, pt5, pt6, pt7]; rfl) ?_) | (refine WT.spec rfl rfl (fun V => h44 _) (by simp only [pt8, pt0, pt1, pt2, pt3, pt4, pt5, pt6, pt7]; rfl) ?_) | (refine WT.spec rfl rfl (fun V => h65 _) (by simp only [pt8, pt0, pt1, pt2, pt3, pt4, pt5, pt6, pt7]; rfl) ?_) | (refine WT.append (sv := v) (xv := .sref (H.length + 2) 0 0 2 1 (some 1)) rfl rfl e1 (apart_nil _) (apart_nil _) (by simp only [pt8, pt0, pt1, pt2, pt3, pt4, pt5, pt6, pt7]; rfl) ?_) | (refine WC.seq ?_) | (refine WC.region ?_) | (refine WO.nil ?_) | (simp only [fl1, fl2, fl3, fl4, fl5, fl6, fl7, fl8, fl9, fl10, Nat.reduceBEq]) | (refine WC.drawT ?_) | (refine WT.nil ?_) | (refine WT.big rfl rfl (by intro; simp (disch := omega) only [go_sem, zeros, List.append_assoc, List.length_append, ov_all6, ov_one0, ov_all2, Nat.reduceAdd, Nat.reduceMul, Nat.reduceSub, Nat.reduceLeDiff, Nat.reduceEqDiff, Int.reduceNeg, Int.reduceAdd, Int.reduceToNat, reduceIte, reduceCtorEq, Pipe.cells, cut10, cutA, cut2z, over10, lk0, lk1, lk2, st0, st1, st2, k1, k2, k3, look_left, j3, hvc]; rfl) (by simp (disch := omega) only [go_sem, zeros, List.append_assoc, List.length_append, ov_all6, ov_one0, ov_all2, Nat.reduceAdd, Nat.reduceMul, Nat.reduceSub, Nat.reduceLeDiff, Nat.reduceEqDiff, Int.reduceNeg, Int.reduceAdd, Int.reduceToNat, reduceIte, reduceCtorEq, Pipe.cells, cut10, cutA, cut2z, over10, lk0, lk1, lk2, st0, st1, st2, k1, k2, k3, look_left, j3, hvc, touch]; rfl) (by first | exact .inl rfl | exact .inr (apart_nil _) | exact .inr trivial | (right; apply apart_mk; simp only [apartL, List.nil_append, List.cons_append, List.getElem?_cons_succ, List.getElem?_cons_zero, Tch.free, and_true, true_and]; first | done | omega)) (by simp only [pt8, pt0, pt1, pt2, pt3, pt4, pt5, pt6, pt7]; rfl) ?_) | (refine WT.bigN rfl rfl (by intro; simp (disch := omega) only [go_sem, zeros, List.append_assoc, List.length_append, ov_all6, ov_one0, ov_all2, Nat.reduceAdd, Nat.reduceMul, Nat.reduceSub, Nat.reduceLeDiff, Nat.reduceEqDiff, Int.reduceNeg, Int.reduceAdd, Int.reduceToNat, reduceIte, reduceCtorEq, Pipe.cells, cut10, cutA, cut2z, over10, lk0, lk1, lk2, st0, st1, st2, k1, k2, k3, look_left, j3, hvc]; rfl) (by simp (disch := omega) only [go_sem, zeros, List.append_assoc, List.length_append, ov_all6, ov_one0, ov_all2, Nat.reduceAdd, Nat.reduceMul, Nat.reduceSub, Nat.reduceLeDiff, Nat.reduceEqDiff, Int.reduceNeg, Int.reduceAdd, Int.reduceToNat, reduceIte, reduceCtorEq, Pipe.cells, cut10, cutA, cut2z, over10, lk0, lk1, lk2, st0, st1, st2, k1, k2, k3, look_left, j3, hvc, touch]; rfl) (by first | exact .inl rfl | exact .inr (apart_nil _) | exact .inr trivial | (right; apply apart_mk; simp only [apartL, List.nil_append, List.cons_append, List.getElem?_cons_succ, List.getElem?_cons_zero, Tch.free, and_true, true_and]; first | done | omega)) ?_) | (refine WC.block ?_))
      refine ⟨trivial, by first | rfl | trivial, .inl ⟨trivial, by first | rfl | trivial, v', q', ?_⟩⟩
      refine ⟨?_, ?_, ?_, look_set (look_lt j3), ?_, ?_, a1.frame (q1 := 3) (fun j hj hj3 => List.getElem?_set_ne (Ne.symm hj3)) (by omega), hq6'⟩
      · rw [look_of_get (List.getElem?_set_ne (by decide)), look_of_get (hkk 0 (by omega) (by omega))]; exact k0
      · rw [look_of_get (List.getElem?_set_ne (by decide)), look_of_get (hkk 1 (by omega) (by omega))]; exact k1
      · rw [look_of_get (List.getElem?_set_ne (by decide)), look_of_get (hkk 2 (by omega) (by omega))]; exact k2
      · rw [look_of_get (List.getElem?_set_ne (by decide)), look_of_get (hkk 4 (by omega) (by omega))]; exact k4
      · rw [look_of_get (List.getElem?_set_ne (by decide)), look_of_get (hkk 5 (by omega) (by omega))]; exact k5
    · rintro v m' (⟨h1, v, q, h2⟩ | h)
      · refine ⟨h1, ?_⟩
        have k3 := h2.k3
        repeat' (first | (refine WO.opE (by intro; simp (disch := omega) only [go_sem, zeros, List.append_assoc, List.length_append, ov_all6, ov_one0, ov_all2, Nat.reduceAdd, Nat.reduceMul, Nat.reduceSub, Nat.reduceLeDiff, Nat.reduceEqDiff, Int.reduceNeg, Int.reduceAdd, Int.reduceToNat, reduceIte, reduceCtorEq, fillP, k3]; rfl) (by simp only [pt8, pt0, pt1, pt2, pt3, pt4, pt5, pt6, pt7]; rfl) ?_) | (refine WC.seq ?_) | (refine WC.region ?_) | (refine WO.nil ?_) | (simp only [fl1, fl2, fl3, fl4, fl5, fl6, fl7, fl8, fl9, fl10, Nat.reduceBEq]) | (refine WC.ret ?_))
        obtain ⟨x, x1, x2⟩ := gs_pairs h2.g
        exact ⟨_, rfl, x, x1, res2 x2⟩
      · exact h.elim
  · simp only [if_neg h0] at h38 ⊢
    generalize setE ps sup tol ids w = e at *
    refine WF.fnE rfl (fn_of Tryd.func27 cir27) (by show 3 ≤ 44; decide) ?_
    unfold ir27
    simp only [padTo, List.replicate, List.nil_append, List.append_nil, List.cons_append]
    repeat' (first | (refine WO.opE (by intro; simp (disch := omega) only [go_sem, zeros, Zz.look, List.append_assoc, List.length_append, ov_one0, ov_all2, ov_all6, Nat.reduceAdd, Nat.reduceMul, Nat.reduceSub, Nat.reduceLeDiff, Nat.reduceEqDiff, Int.reduceNeg, Int.reduceAdd, Int.reduceToNat, reduceIte, reduceCtorEq, List.map_cons, List.map_nil, over5]; rfl) (by simp only [pt8, pt0, pt1, pt2, pt3, pt4, pt5, pt6, pt7]; rfl) ?_) | (refine WO.opN (by intro; simp (disch := omega) only [go_sem, zeros, Zz.look, List.append_assoc, List.length_append, ov_one0, ov_all2, ov_all6, Nat.reduceAdd, Nat.reduceMul, Nat.reduceSub, Nat.reduceLeDiff, Nat.reduceEqDiff, Int.reduceNeg, Int.reduceAdd, Int.reduceToNat, reduceIte, reduceCtorEq, List.map_cons, List.map_nil, over5]; rfl) ?_) | (refine WO.specE rfl rfl (h38 _) (by simp only [pt8, pt0, pt1, pt2, pt3, pt4, pt5, pt6, pt7]; rfl) ?_) | (refine WC.seq ?_) | (refine WC.region ?_) | (refine WO.nil ?_) | (simp only [fl1, fl2, fl3, fl4, fl5, fl6, fl7, fl8, fl9, fl10, Nat.reduceBEq]) | (refine WC.ret ?_) | (refine WC.em2 rfl (fun hp => ?_) (fun hp => ?_) <;> try (exfalso; first | omega | contradiction)))
    exact ⟨_, rfl, _, PrL.nil, rfl⟩
theorem s27 {pv iv : AV} {ps : List Pipe} {ids : List Int} {sup tol w : Int} (hq : PpL pv ps) (hmax : ps.length < 9223372036854775807) (hiv : IntS iv ids) (himax : ids.length < 9223372036854775807) :
    ∃ x, PrL x (if setE ps sup tol ids w = 0 then sndL ps ids (lacks ps sup ids) w ids.length else []) ∧ ∀ m, borrowE E38 27 [.agg [pv, .int .i64 sup, .int .i64 tol], iv, .int .i64 w] m = some (.tuple [x, .int .i64 (setE ps sup tol ids w)], m) := by
  obtain ⟨n, y, m', h1, x, x1, x2⟩ := (f27 (sup := sup) (tol := tol) (w := w) hq hmax hiv himax).ex
  exact ⟨x, x1, fun m => borrowE_of (pures_cons (pure3 hq.pureC) (pures_cons hiv.pureA (pures_cons rfl rfl))) ⟨⟨n, y, m', h1, x2⟩⟩⟩

noncomputable def D14 : Env := D13.put 27 (borrowE E38 27)
theorem D14_ok : EnvOk Tryd.prog D14 := Env.put_ok D13_ok (borrowE_ok E38_ok (callable Tryd.func27 (by kernel_rfl)))
end Go.Proofs.YtjbdefmhjmkifaaDoor

