import Derived.Test.YtjbdefmhjmkifaaDoorIr11xc5
import Derived.Test.YtjbdefmhjmkifaaDoorL11ya
import Derived.Test.YtjbdefmhjmkifaaDoorAbs43

set_option linter.unusedSimpArgs false
set_option linter.unusedVariables false
namespace Go.Proofs.YtjbdefmhjmkifaaDoor
open Go.Zz
set_option maxRecDepth 100000
set_option maxHeartbeats 4000000
theorem get_of_cut {l : List AV} {n : Nat} {x : AV} (h : Zz.cut l n 1 = some [x]) : l[n]? = some x := by
  unfold Zz.cut at h
  split at h
  · have := congrArg (fun o => o.bind fun l => l[0]?) h
    simpa [List.getElem?_take, List.getElem?_drop] using this
  · cases h
theorem two_of {pv2 xa : AV} {ps : List Pipe} {sup tol w : Int} {i j k : Nat} (hk : k < 65536) (hi : i < ps.length) (hj : j < ps.length) (hi2 : i < 16) (hj2 : j < 16) (hq : PpL pv2 (setWarm (setSag ps j (nth ps i).sag) j (nth (setSag ps j (nth ps i).sag) i).warm)) (hmax : ps.length < 9223372036854775807) (ha : IntS xa (pickL (setWarm (setSag ps j (nth ps i).sag) j (nth (setSag ps j (nth ps i).sag) i).warm) (((k ||| 1 <<< i) ||| 1 <<< j : Nat) : Int) (min (setWarm (setSag ps j (nth ps i).sag) j (nth (setSag ps j (nth ps i).sag) i).warm).length 16))) :
    ∃ a e : Int, (∀ m o', Zz.byVal m.heap o' = some (.agg [pv2, .int .i64 sup, .int .i64 tol]) → borrowX E13 15 [o', xa, .int .i64 (nth (setWarm (setSag ps j (nth ps i).sag) j (nth (setSag ps j (nth ps i).sag) i).warm) i).id, .int .i64 w] m = some (.tuple [.int .i64 a, .int .i64 e], m)) ∧
      ∀ m o', Zz.byVal m.heap o' = some (.agg [pv2, .int .i64 sup, .int .i64 tol]) → borrowX E13 15 [o', xa, .int .i64 (nth (setWarm (setSag ps j (nth ps i).sag) j (nth (setSag ps j (nth ps i).sag) i).warm) j).id, .int .i64 w] m = some (.tuple [.int .i64 a, .int .i64 e], m) := by
  have hl : (setWarm (setSag ps j (nth ps i).sag) j (nth (setSag ps j (nth ps i).sag) i).warm).length = ps.length := by unfold setWarm setSag; rw [List.length_set, List.length_set]
  have hsw : (nth (setWarm (setSag ps j (nth ps i).sag) j (nth (setSag ps j (nth ps i).sag) i).warm) i).sag = (nth (setWarm (setSag ps j (nth ps i).sag) j (nth (setSag ps j (nth ps i).sag) i).warm) j).sag ∧ (nth (setWarm (setSag ps j (nth ps i).sag) j (nth (setSag ps j (nth ps i).sag) i).warm) i).warm = (nth (setWarm (setSag ps j (nth ps i).sag) j (nth (setSag ps j (nth ps i).sag) i).warm) j).warm := by
    have h1 : j < (setSag ps j (nth ps i).sag).length := by unfold setSag; rwa [List.length_set]
    unfold setWarm
    rw [nth_set h1, nth_set h1, if_pos rfl]
    by_cases e : j = i
    · subst e; rw [if_pos rfl]; exact ⟨rfl, rfl⟩
    · rw [if_neg e]
      refine ⟨?_, rfl⟩
      show _ = (nth (setSag ps j (nth ps i).sag) j).sag
      unfold setSag
      rw [nth_set hj, nth_set hj, if_neg e, if_pos rfl]
  generalize (setWarm (setSag ps j (nth ps i).sag) j (nth (setSag ps j (nth ps i).sag) i).warm) = qs at *
  have hid1 : (nth qs i).id ∈ pickL qs (((k ||| 1 <<< i) ||| 1 <<< j : Nat) : Int) (min qs.length 16) := pickL_of (by omega) (or_keep hk hi2 hj2)
  have hid2 : (nth qs j).id ∈ pickL qs (((k ||| 1 <<< i) ||| 1 <<< j : Nat) : Int) (min qs.length 16) := pickL_of (by omega) (or_bit2 (or_lt2 hk hi2).2 hj2)
  have hLn : (pickL qs (((k ||| 1 <<< i) ||| 1 <<< j : Nat) : Int) (min qs.length 16)).length < 9223372036854775807 := Nat.lt_of_le_of_lt (pickL_len _) (by omega)
  have c1 := fun m o' h0 => s15x (sup := sup) (tol := tol) (id := (nth qs i).id) (warm := w) (m := m) (o' := o') hq (by omega) ha hLn h0 (ha.byVal _)
  have c2 := fun m o' h0 => s15x (sup := sup) (tol := tol) (id := (nth qs j).id) (warm := w) (m := m) (o' := o') hq (by omega) ha hLn h0 (ha.byVal _)
  by_cases hv : VO qs sup tol ∧ (-100 ≤ w ∧ w ≤ 100)
  · have e1 : setE qs sup tol (pickL qs (((k ||| 1 <<< i) ||| 1 <<< j : Nat) : Int) (min qs.length 16)) w = 0 := by rw [pick_setE, if_pos hv]
    rw [e1, if_pos ⟨rfl, hid1⟩, if_pos rfl, if_pos hid1] at c1
    rw [e1, if_pos ⟨rfl, hid2⟩, if_pos rfl, if_pos hid2] at c2
    have hpos : ∀ t, t < qs.length → pipeOf qs (nth qs t).id = nth qs t := fun t ht => by
      unfold pipeOf
      rw [pos_eq ht rfl fun s hs => by have := hv.1.lt hs ht; omega]
    rw [hpos i (by omega)] at c1
    rw [hpos j (by omega)] at c2
    have e2 : ∀ l, shiftOf (nth qs i) l w = shiftOf (nth qs j) l w := fun l => by unfold shiftOf; rw [hsw.1, hsw.2]
    rw [e2] at c1
    exact ⟨_, _, c1, c2⟩
  · have e1 : setE qs sup tol (pickL qs (((k ||| 1 <<< i) ||| 1 <<< j : Nat) : Int) (min qs.length 16)) w = 1 := by rw [pick_setE, if_neg hv]
    rw [e1, if_neg (show ¬ ((1 : Int) = 0 ∧ _) from fun h => by cases h.1), if_neg (show ¬ (1 : Int) = 0 by decide)] at c1
    rw [e1, if_neg (show ¬ ((1 : Int) = 0 ∧ _) from fun h => by cases h.1), if_neg (show ¬ (1 : Int) = 0 by decide)] at c2
    exact ⟨_, _, c1, c2⟩
theorem run5 {pv : AV} {ps : List Pipe} {sup tol w : Int} {k a b : Nat} (hq : PpL pv ps) (hm80 : ps.length * 80 ≤ 140737488351232) (hk : k < 65536) (ha1 : a < 256) (hb1 : b < 256) : WF E39 (.func 5 [] []) [.agg [pv, .int .i64 sup, .int .i64 tol], .int .u16 (k : Int), .int .u8 (a : Int), .int .u8 (b : Int), .int .i64 w] ⟨[], []⟩ fun y m' => y = .bool true := by
  have hpc := SL.cells hq
  have hpc2 := hpc
  unfold AV.cells at hpc2
  have hpl := hq.len
  by_cases h0 : ps.length = 0
  · have h0' := h0
    refine WF.fnE rfl (fn_of Tryd.func5 cir5) (by show 5 ≤ 106; decide) ?_
    unfold ir5
    simp only [padTo, List.replicate, List.nil_append, List.append_nil, List.cons_append]
    repeat' (first | (refine WO.yes rfl ?_) | (refine WO.noE rfl (by simp only [pt8, pt0, pt1, pt2, pt3, pt4, pt5, pt6, pt7]; rfl) ?_) | (refine WO.opE (by intro; simp (disch := omega) only [go_sem, zeros, Zz.look, List.append_assoc, List.length_append, ov_one0, Nat.reduceAdd, Nat.reduceMul, Nat.reduceSub, Nat.reduceLeDiff, Nat.reduceEqDiff, Int.reduceNeg, Int.reduceAdd, Int.reduceToNat, reduceIte, reduceCtorEq, hpc2, List.map_cons, List.map_nil]; rfl) (by simp only [pt8, pt0, pt1, pt2, pt3, pt4, pt5, pt6, pt7]; rfl) ?_) | (refine WO.opN (by intro; simp (disch := omega) only [go_sem, zeros, Zz.look, List.append_assoc, List.length_append, ov_one0, Nat.reduceAdd, Nat.reduceMul, Nat.reduceSub, Nat.reduceLeDiff, Nat.reduceEqDiff, Int.reduceNeg, Int.reduceAdd, Int.reduceToNat, reduceIte, reduceCtorEq, hpc2, List.map_cons, List.map_nil]; rfl) ?_) | (refine WO.opE (by intro; exact ev_lenS (by simp only [go_sem]; first | rfl | assumption)) (by simp only [pt8, pt0, pt1, pt2, pt3, pt4, pt5, pt6, pt7]; rfl) ?_) | (refine WO.opE (by intro; exact ev_lenS (by simp only [go_sem]; exact hpl)) (by simp only [pt8, pt0, pt1, pt2, pt3, pt4, pt5, pt6, pt7]; rfl) ?_) | (refine WO.specE rfl rfl (s11) (by simp only [pt8, pt0, pt1, pt2, pt3, pt4, pt5, pt6, pt7]; rfl) ?_) | (refine WC.seq ?_) | (refine WC.region ?_) | (refine WO.nil ?_) | (simp only [fl1, fl2, fl3, fl4, fl5, fl6, fl7, fl8, fl9, fl10, Nat.reduceBEq]) | (refine WC.calm rfl ?_) | (refine WC.drawT ?_) | (refine WT.nil ?_) | (refine WT.yes rfl ?_) | (refine WT.no rfl (by simp only [pt8, pt0, pt1, pt2, pt3, pt4, pt5, pt6, pt7]; rfl) ?_) | (refine WT.free rfl (by intro; simp (disch := omega) only [go_sem, zeros, Zz.look, List.append_assoc, List.length_append, ov_one0, Nat.reduceAdd, Nat.reduceMul, Nat.reduceSub, Nat.reduceLeDiff, Nat.reduceEqDiff, Int.reduceNeg, Int.reduceAdd, Int.reduceToNat, reduceIte, reduceCtorEq, hpc2, List.map_cons, List.map_nil]; rfl) rfl (by simp only [pt8, pt0, pt1, pt2, pt3, pt4, pt5, pt6, pt7]; rfl) ?_) | (refine WT.big rfl rfl (by intro; simp (disch := omega) only [go_sem, zeros, Zz.look, List.append_assoc, List.length_append, ov_one0, Nat.reduceAdd, Nat.reduceMul, Nat.reduceSub, Nat.reduceLeDiff, Nat.reduceEqDiff, Int.reduceNeg, Int.reduceAdd, Int.reduceToNat, reduceIte, reduceCtorEq, hpc2, List.map_cons, List.map_nil]; rfl) (by simp (disch := omega) only [go_sem, zeros, Zz.look, List.append_assoc, List.length_append, ov_one0, Nat.reduceAdd, Nat.reduceMul, Nat.reduceSub, Nat.reduceLeDiff, Nat.reduceEqDiff, Int.reduceNeg, Int.reduceAdd, Int.reduceToNat, reduceIte, reduceCtorEq, hpc2, List.map_cons, List.map_nil, touch]; rfl) (by first | exact .inl rfl | exact .inr (apart_nil _) | (right; apply apart_mk; simp only [apartL, List.nil_append, List.cons_append, List.getElem?_cons_succ, List.getElem?_cons_zero, Tch.free, and_true, true_and]; first | done | omega)) (by simp only [pt8, pt0, pt1, pt2, pt3, pt4, pt5, pt6, pt7]; rfl) ?_) | (refine WT.bigN rfl rfl (by intro; simp (disch := omega) only [go_sem, zeros, Zz.look, List.append_assoc, List.length_append, ov_one0, Nat.reduceAdd, Nat.reduceMul, Nat.reduceSub, Nat.reduceLeDiff, Nat.reduceEqDiff, Int.reduceNeg, Int.reduceAdd, Int.reduceToNat, reduceIte, reduceCtorEq, hpc2, List.map_cons, List.map_nil]; rfl) (by simp (disch := omega) only [go_sem, zeros, Zz.look, List.append_assoc, List.length_append, ov_one0, Nat.reduceAdd, Nat.reduceMul, Nat.reduceSub, Nat.reduceLeDiff, Nat.reduceEqDiff, Int.reduceNeg, Int.reduceAdd, Int.reduceToNat, reduceIte, reduceCtorEq, hpc2, List.map_cons, List.map_nil, touch]; rfl) (by first | exact .inl rfl | exact .inr (apart_nil _) | (right; apply apart_mk; simp only [apartL, List.nil_append, List.cons_append, List.getElem?_cons_succ, List.getElem?_cons_zero, Tch.free, and_true, true_and]; first | done | omega)) ?_) | (refine WC.yes rfl ?_) | (refine WC.no rfl ?_) | (refine WC.skip ?_) | (refine WC.exit ?_) | (refine WC.ret ?_) | (refine WC.block ?_) | (refine WT.em2 rfl (by intro hp; simp only [hp, decide_true]; rfl) (by intro hp; simp only [hp, decide_false]; rfl) (fun hp => ?_) (fun hp => ?_) <;> try (exfalso; first | omega | contradiction)) | (refine WO.em2 rfl (by intro hp; simp only [hp, decide_true]; rfl) (by intro hp; simp only [hp, decide_false]; rfl) (fun hp => ?_) (fun hp => ?_) <;> try (exfalso; first | omega | contradiction)) | (refine WC.em2 rfl (fun hp => ?_) (fun hp => ?_) <;> try (exfalso; first | omega | contradiction)))
    exact ⟨_, rfl, rfl⟩
  · obtain ⟨i, hi, hrem1⟩ := rem_av (b := a) (n := min ps.length 16) (by omega)
    obtain ⟨j, hj, hrem2⟩ := rem_av (b := b) (n := min ps.length 16) (by omega)
    rw [show ((min ps.length 16 : Nat) : Int) = min (ps.length : Int) 16 by omega] at hrem1 hrem2
    have hi1 : i < ps.length := by omega
    have hj1 : j < ps.length := by omega
    have hi2 : i < 16 := by omega
    have hj2 : j < 16 := by omega
    have hl1 : (setSag ps j (nth ps i).sag).length = ps.length := by unfold setSag; rw [List.length_set]
    have hl2 : (setWarm (setSag ps j (nth ps i).sag) j (nth (setSag ps j (nth ps i).sag) i).warm).length = ps.length := by unfold setWarm; rw [List.length_set, hl1]
    have u1 := get_of_cut (cut_sag hi1)
    have u2 := over_sag hj1 (nth ps i).sag
    have u3 := get_of_cut (cut_warm (ps := setSag ps j (nth ps i).sag) (i := i) (by omega))
    have u4 := over_warm (ps := setSag ps j (nth ps i).sag) (i := j) (by omega) (nth (setSag ps j (nth ps i).sag) i).warm
    have u5 := get_of_cut (cut_id (ps := (setWarm (setSag ps j (nth ps i).sag) j (nth (setSag ps j (nth ps i).sag) i).warm)) (i := i) (by omega))
    have u6 := get_of_cut (cut_id (ps := (setWarm (setSag ps j (nth ps i).sag) j (nth (setSag ps j (nth ps i).sag) i).warm)) (i := j) (by omega))
    have hsh1 := shl_av2 hi2
    have hsh2 := shl_av2 hj2
    have hor1 := or_av2 (k := k) hk hi2
    have hor2 := or_av2 (or_lt2 hk hi2).2 hj2
    have hq2 : PpL (.sval false ps.length (flat (setWarm (setSag ps j (nth ps i).sag) j (nth (setSag ps j (nth ps i).sag) i).warm))) (setWarm (setSag ps j (nth ps i).sag) j (nth (setSag ps j (nth ps i).sag) i).warm) := by have := flat_ok (setWarm (setSag ps j (nth ps i).sag) j (nth (setSag ps j (nth ps i).sag) i).warm); rwa [hl2] at this
    have hby : ∀ H, Zz.look H 2 0 = some (flat (setWarm (setSag ps j (nth ps i).sag) j (nth (setSag ps j (nth ps i).sag) i).warm)) → Zz.byVal H (.agg [.sref 2 0 0 10 ps.length none, .int .i64 sup, .int .i64 tol]) = some (.agg [.sval false ps.length (flat (setWarm (setSag ps j (nth ps i).sag) j (nth (setSag ps j (nth ps i).sag) i).warm)), .int .i64 sup, .int .i64 tol]) := fun H h => by
      have := by_flat (sup := sup) (tol := tol) h
      rwa [hl2] at this
    obtain ⟨xa, ha, ca⟩ := s12x (sup := sup) (tol := tol) (k := (((k ||| 1 <<< i) ||| 1 <<< j : Nat) : Int)) hq2 (by omega)
    obtain ⟨z, e, c1, c2⟩ := two_of (sup := sup) (tol := tol) (w := w) hk hi1 hj1 hi2 hj2 hq2 (by omega) ha
    have hm' : ps.length ≤ 140737488351232 := by omega
    refine WF.fnE rfl (fn_of Tryd.func5 cir5) (by show 5 ≤ 106; decide) ?_
    unfold ir5
    simp only [padTo, List.replicate, List.nil_append, List.append_nil, List.cons_append]
    repeat' (first | (refine WO.yes rfl ?_) | (refine WO.noE rfl (by simp only [pt8, pt0, pt1, pt2, pt3, pt4, pt5, pt6, pt7]; rfl) ?_) | (refine WO.opE (by intro; simp (disch := omega) only [go_sem, zeros, Zz.look, List.append_assoc, List.length_append, ov_one0, Nat.reduceAdd, Nat.reduceMul, Nat.reduceSub, Nat.reduceLeDiff, Nat.reduceEqDiff, Int.reduceNeg, Int.reduceAdd, Int.reduceToNat, reduceIte, reduceCtorEq, hpc2, List.map_cons, List.map_nil, u1, u2, u3, u4, u5, u6, ia_sref, storeAt, setBlk]; rfl) (by simp only [pt8, pt0, pt1, pt2, pt3, pt4, pt5, pt6, pt7]; rfl) ?_) | (refine WO.opN (by intro; simp (disch := omega) only [go_sem, zeros, Zz.look, List.append_assoc, List.length_append, ov_one0, Nat.reduceAdd, Nat.reduceMul, Nat.reduceSub, Nat.reduceLeDiff, Nat.reduceEqDiff, Int.reduceNeg, Int.reduceAdd, Int.reduceToNat, reduceIte, reduceCtorEq, hpc2, List.map_cons, List.map_nil, u1, u2, u3, u4, u5, u6, ia_sref, storeAt, setBlk]; rfl) ?_) | (refine WO.opE (by intro; exact ev_lenS (by simp only [go_sem]; first | rfl | assumption)) (by simp only [pt8, pt0, pt1, pt2, pt3, pt4, pt5, pt6, pt7]; rfl) ?_) | (refine WO.opE (by intro; exact ev_lenS (by simp only [go_sem]; exact hpl)) (by simp only [pt8, pt0, pt1, pt2, pt3, pt4, pt5, pt6, pt7]; rfl) ?_) | (refine WO.specE rfl rfl (s11) (by simp only [pt8, pt0, pt1, pt2, pt3, pt4, pt5, pt6, pt7]; rfl) ?_) | (refine WO.opE (by intro; rw [ev_append]; exact app_e rfl hq (by omega) hm80) (by simp only [pt8, pt0, pt1, pt2, pt3, pt4, pt5, pt6, pt7]; rfl) ?_) | (refine WO.opE (by intro; simp only [ev_bin, Opd.ev, gt8, gt0, gt1, gt2, gt3, gt4, gt5, gt6, gt7, hrem1, hrem2, Option.map_some]; rfl) (by simp only [pt8, pt0, pt1, pt2, pt3, pt4, pt5, pt6, pt7]; rfl) ?_) | (refine WT.free rfl (by intro; simp only [ev_bin, Opd.ev, gt8, gt0, gt1, gt2, gt3, gt4, gt5, gt6, gt7, hsh1, hsh2, hor1, hor2, Option.map_some]; rfl) rfl (by simp only [pt8, pt0, pt1, pt2, pt3, pt4, pt5, pt6, pt7]; rfl) ?_) | (refine WT.specG [2] rfl rfl (apart_all (fun j hj => trivial)) (fun V hVl hVj => ca _ _ (hby V (look_eq_iff.2 (hVj 2 (by simp))))) (by simp only [pt8, pt0, pt1, pt2, pt3, pt4, pt5, pt6, pt7]; rfl) ?_) | (refine WT.specG [2] rfl rfl (apart_all (fun j hj => trivial)) (fun V hVl hVj => c1 _ _ (hby V (look_eq_iff.2 (hVj 2 (by simp))))) (by simp only [pt8, pt0, pt1, pt2, pt3, pt4, pt5, pt6, pt7]; rfl) ?_) | (refine WT.specG [2] rfl rfl (apart_all (fun j hj => trivial)) (fun V hVl hVj => c2 _ _ (hby V (look_eq_iff.2 (hVj 2 (by simp))))) (by simp only [pt8, pt0, pt1, pt2, pt3, pt4, pt5, pt6, pt7]; rfl) ?_) | (refine WC.seq ?_) | (refine WC.region ?_) | (refine WO.nil ?_) | (simp only [fl1, fl2, fl3, fl4, fl5, fl6, fl7, fl8, fl9, fl10, Nat.reduceBEq]) | (refine WC.calm rfl ?_) | (refine WC.drawT ?_) | (refine WT.nil ?_) | (refine WT.yes rfl ?_) | (refine WT.no rfl (by simp only [pt8, pt0, pt1, pt2, pt3, pt4, pt5, pt6, pt7]; rfl) ?_) | (refine WT.free rfl (by intro; simp (disch := omega) only [go_sem, zeros, Zz.look, List.append_assoc, List.length_append, ov_one0, Nat.reduceAdd, Nat.reduceMul, Nat.reduceSub, Nat.reduceLeDiff, Nat.reduceEqDiff, Int.reduceNeg, Int.reduceAdd, Int.reduceToNat, reduceIte, reduceCtorEq, hpc2, List.map_cons, List.map_nil, u1, u2, u3, u4, u5, u6, ia_sref, storeAt, setBlk]; rfl) rfl (by simp only [pt8, pt0, pt1, pt2, pt3, pt4, pt5, pt6, pt7]; rfl) ?_) | (refine WT.big rfl rfl (by intro; simp (disch := omega) only [go_sem, zeros, Zz.look, List.append_assoc, List.length_append, ov_one0, Nat.reduceAdd, Nat.reduceMul, Nat.reduceSub, Nat.reduceLeDiff, Nat.reduceEqDiff, Int.reduceNeg, Int.reduceAdd, Int.reduceToNat, reduceIte, reduceCtorEq, hpc2, List.map_cons, List.map_nil, u1, u2, u3, u4, u5, u6, ia_sref, storeAt, setBlk]; rfl) (by simp (disch := omega) only [go_sem, zeros, Zz.look, List.append_assoc, List.length_append, ov_one0, Nat.reduceAdd, Nat.reduceMul, Nat.reduceSub, Nat.reduceLeDiff, Nat.reduceEqDiff, Int.reduceNeg, Int.reduceAdd, Int.reduceToNat, reduceIte, reduceCtorEq, hpc2, List.map_cons, List.map_nil, u1, u2, u3, u4, u5, u6, ia_sref, storeAt, setBlk, touch]; rfl) (by first | exact .inl rfl | exact .inr (apart_nil _) | (right; apply apart_mk; simp only [apartL, List.nil_append, List.cons_append, List.getElem?_cons_succ, List.getElem?_cons_zero, Tch.free, and_true, true_and]; first | done | omega)) (by simp only [pt8, pt0, pt1, pt2, pt3, pt4, pt5, pt6, pt7]; rfl) ?_) | (refine WT.bigN rfl rfl (by intro; simp (disch := omega) only [go_sem, zeros, Zz.look, List.append_assoc, List.length_append, ov_one0, Nat.reduceAdd, Nat.reduceMul, Nat.reduceSub, Nat.reduceLeDiff, Nat.reduceEqDiff, Int.reduceNeg, Int.reduceAdd, Int.reduceToNat, reduceIte, reduceCtorEq, hpc2, List.map_cons, List.map_nil, u1, u2, u3, u4, u5, u6, ia_sref, storeAt, setBlk]; rfl) (by simp (disch := omega) only [go_sem, zeros, Zz.look, List.append_assoc, List.length_append, ov_one0, Nat.reduceAdd, Nat.reduceMul, Nat.reduceSub, Nat.reduceLeDiff, Nat.reduceEqDiff, Int.reduceNeg, Int.reduceAdd, Int.reduceToNat, reduceIte, reduceCtorEq, hpc2, List.map_cons, List.map_nil, u1, u2, u3, u4, u5, u6, ia_sref, storeAt, setBlk, touch]; rfl) (by first | exact .inl rfl | exact .inr (apart_nil _) | (right; apply apart_mk; simp only [apartL, List.nil_append, List.cons_append, List.getElem?_cons_succ, List.getElem?_cons_zero, Tch.free, and_true, true_and]; first | done | omega)) ?_) | (refine WC.yes rfl ?_) | (refine WC.no rfl ?_) | (refine WC.skip ?_) | (refine WC.exit ?_) | (refine WC.ret ?_) | (refine WC.block ?_) | (refine WT.em2 rfl (by intro hp; simp only [hp, decide_true]; rfl) (by intro hp; simp only [hp, decide_false]; rfl) (fun hp => ?_) (fun hp => ?_) <;> try (exfalso; first | omega | contradiction)) | (refine WO.em2 rfl (by intro hp; simp only [hp, decide_true]; rfl) (by intro hp; simp only [hp, decide_false]; rfl) (fun hp => ?_) (fun hp => ?_) <;> try (exfalso; first | omega | contradiction)) | (refine WC.em2 rfl (fun hp => ?_) (fun hp => ?_) <;> try (exfalso; first | omega | contradiction)))
    all_goals exact ⟨_, rfl, rfl⟩
end Go.Proofs.YtjbdefmhjmkifaaDoor

