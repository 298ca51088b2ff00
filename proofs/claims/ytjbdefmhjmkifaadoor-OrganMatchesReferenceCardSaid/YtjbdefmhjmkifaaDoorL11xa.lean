import Derived.Test.YtjbdefmhjmkifaaDoorIr11xc10
import Derived.Test.YtjbdefmhjmkifaaDoorL11di
import Derived.Test.YtjbdefmhjmkifaaDoorL11ck
import Derived.Test.YtjbdefmhjmkifaaDoorL11x8

set_option linter.unusedSimpArgs false
set_option linter.unusedVariables false
namespace Go.Proofs.YtjbdefmhjmkifaaDoor
open Go.Zz
set_option maxRecDepth 100000
set_option maxHeartbeats 16000000
theorem cut3y {a b c : AV} : Zz.cut [a, b, c] 0 3 = some [a, b, c] := by simp [Zz.cut]
theorem range_shape {ps : List Pipe} {sup tol id cold hot : Int} : ∃ a b e : Int, rangeV ps sup tol id cold hot = .tuple [.agg [.int .i64 a, .int .i64 b], .int .i64 e] := by
  unfold rangeV
  split
  · split <;> exact ⟨_, _, _, rfl⟩
  · exact ⟨_, _, _, rfl⟩
theorem ex255z {T : List AV} (h : T.length = 255) : ∃ f : Nat → AV, T = [f 0, f 1, f 2, f 3, f 4, f 5, f 6, f 7, f 8, f 9, f 10, f 11, f 12, f 13, f 14, f 15, f 16, f 17, f 18, f 19, f 20, f 21, f 22, f 23, f 24, f 25, f 26, f 27, f 28, f 29, f 30, f 31, f 32, f 33, f 34, f 35, f 36, f 37, f 38, f 39, f 40, f 41, f 42, f 43, f 44, f 45, f 46, f 47, f 48, f 49, f 50, f 51, f 52, f 53, f 54, f 55, f 56, f 57, f 58, f 59, f 60, f 61, f 62, f 63, f 64, f 65, f 66, f 67, f 68, f 69, f 70, f 71, f 72, f 73, f 74, f 75, f 76, f 77, f 78, f 79, f 80, f 81, f 82, f 83, f 84, f 85, f 86, f 87, f 88, f 89, f 90, f 91, f 92, f 93, f 94, f 95, f 96, f 97, f 98, f 99, f 100, f 101, f 102, f 103, f 104, f 105, f 106, f 107, f 108, f 109, f 110, f 111, f 112, f 113, f 114, f 115, f 116, f 117, f 118, f 119, f 120, f 121, f 122, f 123, f 124, f 125, f 126, f 127, f 128, f 129, f 130, f 131, f 132, f 133, f 134, f 135, f 136, f 137, f 138, f 139, f 140, f 141, f 142, f 143, f 144, f 145, f 146, f 147, f 148, f 149, f 150, f 151, f 152, f 153, f 154, f 155, f 156, f 157, f 158, f 159, f 160, f 161, f 162, f 163, f 164, f 165, f 166, f 167, f 168, f 169, f 170, f 171, f 172, f 173, f 174, f 175, f 176, f 177, f 178, f 179, f 180, f 181, f 182, f 183, f 184, f 185, f 186, f 187, f 188, f 189, f 190, f 191, f 192, f 193, f 194, f 195, f 196, f 197, f 198, f 199, f 200, f 201, f 202, f 203, f 204, f 205, f 206, f 207, f 208, f 209, f 210, f 211, f 212, f 213, f 214, f 215, f 216, f 217, f 218, f 219, f 220, f 221, f 222, f 223, f 224, f 225, f 226, f 227, f 228, f 229, f 230, f 231, f 232, f 233, f 234, f 235, f 236, f 237, f 238, f 239, f 240, f 241, f 242, f 243, f 244, f 245, f 246, f 247, f 248, f 249, f 250, f 251, f 252, f 253, f 254] := ⟨gt T, by have := list_gts T; rw [h] at this; exact this⟩
theorem run10 {pv vv iv : AV} {ps : List Pipe} {vs : List V6} {ids : List Int} {sup tol id w hot : Int} (hq : PpL pv ps) (hmax : ps.length < 9223372036854775807) (hvv : VL6 vv vs) (hvmax : vs.length < 9223372036854775807) (hiv : IntS iv ids) (himax : ids.length < 9223372036854775807) : WF D16 (.func 10 [] []) [.agg [pv, .int .i64 sup, .int .i64 tol], iv, .int .i64 id, .int .i64 w, .int .i64 hot, vv] ⟨[], []⟩ fun v m' => v = .bool true := by
  have hpc := SL.cells hq
  have hpc2 := hpc
  unfold AV.cells at hpc2
  obtain ⟨x, vw, hx, hvw, c18⟩ := s18v (sup := sup) (tol := tol) hq hmax hvv hvmax
  have hxc := SL.cells hx
  have hxc2 := hxc
  unfold AV.cells at hxc2
  have hvwc := SL.cells hvw
  have hvl := hvw.len
  have hfs := few_small (ps := ps) (tol := tol) (vs := vs.take 3)
  have hql : (fewL ps).length < 9223372036854775807 := by unfold fewL; rw [List.length_map, List.length_take]; omega
  have h3 : (vs.take 3).length ≤ 3 := by rw [List.length_take]; omega
  generalize fewL ps = qs at *
  generalize vs.take 3 = us at *
  clear hq hmax hvv hvmax
  have c14 := fun m => s14 (sup := sup) (tol := tol) (m := m) hx hql
  have c24 := fun m => s24 (sup := sup) (tol := tol) (m := m) hx hql
  have c13 := fun m => s13 (sup := sup) (tol := tol) (m := m) hx hql hiv himax (hiv.byVal _)
  have c25 := fun m => s25 (sup := sup) (tol := tol) (m := m) hx hql hiv himax
  have c15 := fun m => s15 (sup := sup) (tol := tol) (id := id) (warm := w) (m := m) hx hql hiv himax (hiv.byVal _)
  have c26 := fun m => s26 (sup := sup) (tol := tol) (id := id) (w := w) (m := m) hx hql hiv himax
  obtain ⟨xa, ha, c27⟩ := s27 (sup := sup) (tol := tol) (w := w) hx hql hiv himax
  obtain ⟨xb, hb, c28⟩ := s28 (sup := sup) (tol := tol) (w := w) hx hql hiv himax
  have hsl : (if setE qs sup tol ids w = 0 then sndL qs ids (lacks qs sup ids) w ids.length else []).length < 9223372036854775807 := by
    split
    · rw [snd_len (Nat.le_refl _)]; omega
    · simp
  have c29 := fun m => s29 (m := m) ha hb hsl hsl
  rw [decide_eq_true rfl] at c29
  have c16 := fun m => s16 (sup := sup) (tol := tol) (id := id) (cold := w) (hot := hot) (m := m) hx hql
  have c30 := fun m => s30 (sup := sup) (tol := tol) (id := id) (cold := w) (hot := hot) (m := m) hx hql
  obtain ⟨ra, rb, re, hr⟩ := range_shape (ps := qs) (sup := sup) (tol := tol) (id := id) (cold := w) (hot := hot)
  rw [hr] at c16 c30
  have c20 := fun m => s20 (sup := sup) (tol := tol) (warm := w) (m := m) hx hql hiv himax (hiv.byVal _)
  have c31 := fun m => s31 (sup := sup) (tol := tol) (w := w) (m := m) hx hql hiv himax
  have c19 := fun m => s19 (sup := sup) (tol := tol) (warm := w) (m := m) hx hql hiv himax (hiv.byVal _)
  have c32 := fun m => s32 (sup := sup) (tol := tol) (w := w) (m := m) hx hql hiv himax
  obtain ⟨y, y1, y2, c21⟩ := s21 (sup := sup) (tol := tol) (w := w) hx hql hvw (by omega)
  have c21' := fun m => c21 m vw (hvw.byVal _)
  obtain ⟨z, c33, z1, z2⟩ := s33 (sup := sup) (tol := tol) (w := w) hx hql hvw h3 hfs
  have c34 : ∀ m, borrowX E35 34 [y, z] m = some (.bool true, m) := fun m => by
    by_cases he : chordE qs sup tol us w = 0
    · obtain ⟨r, h1, h2⟩ := y1 he
      obtain ⟨r', h1', h2'⟩ := z1 he
      rw [h1] at h1'
      cases h1'
      have hrl : r.length < 9223372036854775807 := by have := dfs_len h1; rw [this, LSof_len]; simp; omega
      have := s34 (m := m) h2 h2' (by omega) (by omega) (h2.byVal _) (h2'.byVal _)
      rwa [decide_eq_true rfl] at this
    · rw [y2 he, z2 he]
      exact s34 (m := m) IntS.nil IntS.nil (by decide) (by decide) rfl rfl
  clear y1 y2 z1 z2 c21
  have hfind : ∀ i : Nat, ∃ p q : AV, ∃ e : Int, (∀ m, borrowE E28 35 [.agg [x, .int .i64 sup, .int .i64 tol], .agg (nv us i).cells] m = some (.tuple [p, .int .i64 e], m)) ∧ (∀ m, borrowE D12 36 [.agg [x, .int .i64 sup, .int .i64 tol], .agg (nv us i).cells] m = some (.tuple [q, .int .i64 e], m)) ∧ ∀ m, borrowX E35 34 [p, q] m = some (.bool true, m) := fun i => by
    obtain ⟨p, p1, p2, p3⟩ := s35 (sup := sup) (tol := tol) (w := nv us i) hx hql
    obtain ⟨q, q1, q2, q3⟩ := s36 (sup := sup) (tol := tol) (w := nv us i) hx hql
    refine ⟨p, q, _, p3, q3, fun m => ?_⟩
    by_cases h : VO qs sup tol ∧ (nv us i).ok 48
    · have hl := findL_len (ps := qs) (tol := tol) (v := nv us i) (i := qs.length)
      have := s34 (m := m) (p1 h).1 (q1 h) (by omega) (by omega) ((p1 h).1.byVal _) ((q1 h).byVal _)
      rwa [decide_eq_true rfl] at this
    · rw [p2 h, q2 h]
      exact s34 (m := m) IntS.nil IntS.nil (by decide) (by decide) rfl rfl
  generalize (if setE qs sup tol ids 0 = 0 then dem qs ids else 0) = A1 at *
  generalize setE qs sup tol ids 0 = A2 at *
  generalize (if setE qs sup tol ids w = 0 ∧ id ∈ ids then shiftOf (pipeOf qs id) (lacks qs sup ids) w else 0) = A3 at *
  generalize (if setE qs sup tol ids w = 0 then if id ∈ ids then 0 else 4 else setE qs sup tol ids w) = A4 at *
  generalize (decide (setE qs sup tol ids w = 0 ∧ Stead qs tol ids (lacks qs sup ids) w)) = A5 at *
  generalize setE qs sup tol ids w = A6 at *
  generalize (needV qs sup tol ids w).1 = A7 at *
  generalize (needV qs sup tol ids w).2 = A8 at *
  generalize chordE qs sup tol us w = A9 at *
  generalize decide (VO qs sup tol) = A10 at *
  refine WF.fnE rfl (fn_of Tryd.func10 cir10) (by show 6 ≤ 255; decide) ?_
  unfold ir10
  simp only [padTo, List.replicate, List.nil_append, List.append_nil, List.cons_append]
  repeat' (first | (refine WO.yes rfl ?_) | (refine WO.opE (by intro; simp (disch := omega) only [go_sem, zeros, Zz.look, Zz.over, List.append_assoc, List.length_append, Nat.reduceAdd, Nat.reduceMul, Nat.reduceSub, Nat.reduceLeDiff, Nat.reduceEqDiff, Int.reduceNeg, Int.reduceAdd, Int.reduceToNat, reduceIte, reduceCtorEq, hpc2, hxc2, cut3y, eq_self, decide_true, List.map_cons, List.map_nil, cut2z, cellsEq, cellEq, and_self, Bool.and_true, Bool.true_and, Bool.and_self, beq_self_eq_true]; rfl) (by simp only [pt8, pt0, pt1, pt2, pt3, pt4, pt5, pt6, pt7]; rfl) ?_) | (refine WO.opN (by intro; simp (disch := omega) only [go_sem, zeros, Zz.look, Zz.over, List.append_assoc, List.length_append, Nat.reduceAdd, Nat.reduceMul, Nat.reduceSub, Nat.reduceLeDiff, Nat.reduceEqDiff, Int.reduceNeg, Int.reduceAdd, Int.reduceToNat, reduceIte, reduceCtorEq, hpc2, hxc2, cut3y, eq_self, decide_true, List.map_cons, List.map_nil, cut2z, cellsEq, cellEq, and_self, Bool.and_true, Bool.true_and, Bool.and_self, beq_self_eq_true]; rfl) ?_) | (refine WO.specE rfl rfl (c18 _) (by simp only [pt8, pt0, pt1, pt2, pt3, pt4, pt5, pt6, pt7]; rfl) ?_) | (refine WT.spec rfl rfl (fun V => c14 _) (by simp only [pt8, pt0, pt1, pt2, pt3, pt4, pt5, pt6, pt7]; rfl) ?_) | (refine WT.spec rfl rfl (fun V => c24 _) (by simp only [pt8, pt0, pt1, pt2, pt3, pt4, pt5, pt6, pt7]; rfl) ?_) | (refine WO.specE rfl rfl (c13 _) (by simp only [pt8, pt0, pt1, pt2, pt3, pt4, pt5, pt6, pt7]; rfl) ?_) | (refine WO.specE rfl rfl (c25 _) (by simp only [pt8, pt0, pt1, pt2, pt3, pt4, pt5, pt6, pt7]; rfl) ?_) | (refine WO.specE rfl rfl (c15 _) (by simp only [pt8, pt0, pt1, pt2, pt3, pt4, pt5, pt6, pt7]; rfl) ?_) | (refine WO.specE rfl rfl (c26 _) (by simp only [pt8, pt0, pt1, pt2, pt3, pt4, pt5, pt6, pt7]; rfl) ?_) | (refine WO.specE rfl rfl (c27 _) (by simp only [pt8, pt0, pt1, pt2, pt3, pt4, pt5, pt6, pt7]; rfl) ?_) | (refine WO.specE rfl rfl (c28 _) (by simp only [pt8, pt0, pt1, pt2, pt3, pt4, pt5, pt6, pt7]; rfl) ?_) | (refine WO.specE rfl rfl (c29 _) (by simp only [pt8, pt0, pt1, pt2, pt3, pt4, pt5, pt6, pt7]; rfl) ?_) | (refine WO.specE rfl rfl (c16 _) (by simp only [pt8, pt0, pt1, pt2, pt3, pt4, pt5, pt6, pt7]; rfl) ?_) | (refine WO.specE rfl rfl (c30 _) (by simp only [pt8, pt0, pt1, pt2, pt3, pt4, pt5, pt6, pt7]; rfl) ?_) | (refine WO.specE rfl rfl (c20 _) (by simp only [pt8, pt0, pt1, pt2, pt3, pt4, pt5, pt6, pt7]; rfl) ?_) | (refine WO.specE rfl rfl (c31 _) (by simp only [pt8, pt0, pt1, pt2, pt3, pt4, pt5, pt6, pt7]; rfl) ?_) | (refine WO.specE rfl rfl (c19 _) (by simp only [pt8, pt0, pt1, pt2, pt3, pt4, pt5, pt6, pt7]; rfl) ?_) | (refine WO.specE rfl rfl (c32 _) (by simp only [pt8, pt0, pt1, pt2, pt3, pt4, pt5, pt6, pt7]; rfl) ?_) | (refine WO.specE rfl rfl (c21' _) (by simp only [pt8, pt0, pt1, pt2, pt3, pt4, pt5, pt6, pt7]; rfl) ?_) | (refine WO.specE rfl rfl (c33 _) (by simp only [pt8, pt0, pt1, pt2, pt3, pt4, pt5, pt6, pt7]; rfl) ?_) | (refine WO.specE rfl rfl (c34 _) (by simp only [pt8, pt0, pt1, pt2, pt3, pt4, pt5, pt6, pt7]; rfl) ?_) | (refine WO.specE rfl rfl (s11) (by simp only [pt8, pt0, pt1, pt2, pt3, pt4, pt5, pt6, pt7]; rfl) ?_) | (refine WC.seq ?_) | (refine WC.region ?_) | (refine WO.nil ?_) | (simp only [fl1, fl2, fl3, fl4, fl5, fl6, fl7, fl8, fl9, fl10, Nat.reduceBEq]) | (refine WC.drawT ?_) | (refine WT.nil ?_) | (refine WT.yes rfl ?_) | (refine WT.free rfl (by intro; simp (disch := omega) only [go_sem, zeros, Zz.look, Zz.over, List.append_assoc, List.length_append, Nat.reduceAdd, Nat.reduceMul, Nat.reduceSub, Nat.reduceLeDiff, Nat.reduceEqDiff, Int.reduceNeg, Int.reduceAdd, Int.reduceToNat, reduceIte, reduceCtorEq, hpc2, hxc2, cut3y, eq_self, decide_true, List.map_cons, List.map_nil, cut2z, cellsEq, cellEq, and_self, Bool.and_true, Bool.true_and, Bool.and_self, beq_self_eq_true]; rfl) rfl (by simp only [pt8, pt0, pt1, pt2, pt3, pt4, pt5, pt6, pt7]; rfl) ?_) | (refine WT.big rfl rfl (by intro; simp (disch := omega) only [go_sem, zeros, Zz.look, Zz.over, List.append_assoc, List.length_append, Nat.reduceAdd, Nat.reduceMul, Nat.reduceSub, Nat.reduceLeDiff, Nat.reduceEqDiff, Int.reduceNeg, Int.reduceAdd, Int.reduceToNat, reduceIte, reduceCtorEq, hpc2, hxc2, cut3y, eq_self, decide_true, List.map_cons, List.map_nil, cut2z, cellsEq, cellEq, and_self, Bool.and_true, Bool.true_and, Bool.and_self, beq_self_eq_true]; rfl) (by simp (disch := omega) only [go_sem, zeros, Zz.look, Zz.over, List.append_assoc, List.length_append, Nat.reduceAdd, Nat.reduceMul, Nat.reduceSub, Nat.reduceLeDiff, Nat.reduceEqDiff, Int.reduceNeg, Int.reduceAdd, Int.reduceToNat, reduceIte, reduceCtorEq, hpc2, hxc2, cut3y, eq_self, decide_true, List.map_cons, List.map_nil, cut2z, cellsEq, cellEq, and_self, Bool.and_true, Bool.true_and, Bool.and_self, beq_self_eq_true, touch]; rfl) (by first | exact .inl rfl | exact .inr (apart_nil _) | exact .inr trivial | (right; apply apart_mk; simp only [apartL, List.nil_append, List.cons_append, List.getElem?_cons_succ, List.getElem?_cons_zero, Tch.free, and_true, true_and]; first | done | omega)) (by simp only [pt8, pt0, pt1, pt2, pt3, pt4, pt5, pt6, pt7]; rfl) ?_) | (refine WC.block ?_))
  have eG := rfl (a := 0)
  clear c14 c24 c13 c25 c15 c26 c27 c28 c29 c16 c30 c20 c31 c19 c32 c21' c33 c18
  refine WC.loopI (fun m s => ∃ T i, s = ⟨T, [some ⟨0, [x, .int .i64 sup, .int .i64 tol]⟩, some ⟨0, [.int .i64 ra, .int .i64 rb]⟩, some ⟨0, [.int .i64 ra, .int .i64 rb]⟩], []⟩ ∧ T.length = 255 ∧ gt T 5 = vw ∧ gt T 6 = .pref 0 0 0 ∧ gt T 13 = .bool true ∧ gt T 26 = .int .i64 (i : Nat) ∧ m + i = us.length) ?_ us.length _ ⟨_, 0, rfl, rfl, rfl, rfl, rfl, rfl, by omega⟩
  rintro m _ ⟨T, i, rfl, hT, g5, g6, g13, g26, hm⟩
  obtain ⟨f, rfl⟩ := ex255z hT
  clear hT
  replace g5 : f 5 = vw := g5
  replace g6 : f 6 = .pref 0 0 0 := g6
  replace g13 : f 13 = .bool true := g13
  replace g26 : f 26 = .int .i64 (i : Nat) := g26
  simp only [g5, g6, g13, g26]
  by_cases hin : i < us.length
  · obtain ⟨p, q, e, c35, c36, c37⟩ := hfind i
    repeat' (first | (refine WO.yes rfl ?_) | (refine WO.opE (by intro; simp (disch := omega) only [go_sem, zeros, Zz.look, Zz.over, List.append_assoc, List.length_append, Nat.reduceAdd, Nat.reduceMul, Nat.reduceSub, Nat.reduceLeDiff, Nat.reduceEqDiff, Int.reduceNeg, Int.reduceAdd, Int.reduceToNat, reduceIte, reduceCtorEq, hvw.at, cut6, V6.cells, cut3y, eq_self, decide_true]; rfl) (by simp only [pt8, pt0, pt1, pt2, pt3, pt4, pt5, pt6, pt7]; rfl) ?_) | (refine WO.opE (by intro; exact ev_lenS (by simp only [go_sem]; first | rfl | assumption)) (by simp only [pt8, pt0, pt1, pt2, pt3, pt4, pt5, pt6, pt7]; rfl) ?_) | (refine WT.spec rfl rfl (fun V => c35 _) (by simp only [pt8, pt0, pt1, pt2, pt3, pt4, pt5, pt6, pt7]; rfl) ?_) | (refine WT.spec rfl rfl (fun V => c36 _) (by simp only [pt8, pt0, pt1, pt2, pt3, pt4, pt5, pt6, pt7]; rfl) ?_) | (refine WO.specE rfl rfl (c37 _) (by simp only [pt8, pt0, pt1, pt2, pt3, pt4, pt5, pt6, pt7]; rfl) ?_) | (refine WC.seq ?_) | (refine WC.region ?_) | (refine WO.nil ?_) | (simp only [fl1, fl2, fl3, fl4, fl5, fl6, fl7, fl8, fl9, fl10, Nat.reduceBEq]) | (refine WC.drawT ?_) | (refine WT.nil ?_) | (refine WT.free rfl (by intro; simp (disch := omega) only [go_sem, zeros, Zz.look, Zz.over, List.append_assoc, List.length_append, Nat.reduceAdd, Nat.reduceMul, Nat.reduceSub, Nat.reduceLeDiff, Nat.reduceEqDiff, Int.reduceNeg, Int.reduceAdd, Int.reduceToNat, reduceIte, reduceCtorEq, hvw.at, cut6, V6.cells, cut3y, eq_self, decide_true]; rfl) rfl (by simp only [pt8, pt0, pt1, pt2, pt3, pt4, pt5, pt6, pt7]; rfl) ?_) | (refine WT.big rfl rfl (by intro; simp (disch := omega) only [go_sem, zeros, Zz.look, Zz.over, List.append_assoc, List.length_append, Nat.reduceAdd, Nat.reduceMul, Nat.reduceSub, Nat.reduceLeDiff, Nat.reduceEqDiff, Int.reduceNeg, Int.reduceAdd, Int.reduceToNat, reduceIte, reduceCtorEq, hvw.at, cut6, V6.cells, cut3y, eq_self, decide_true]; rfl) (by simp (disch := omega) only [go_sem, zeros, Zz.look, Zz.over, List.append_assoc, List.length_append, Nat.reduceAdd, Nat.reduceMul, Nat.reduceSub, Nat.reduceLeDiff, Nat.reduceEqDiff, Int.reduceNeg, Int.reduceAdd, Int.reduceToNat, reduceIte, reduceCtorEq, hvw.at, cut6, V6.cells, cut3y, eq_self, decide_true, touch]; rfl) (by first | exact .inl rfl | exact .inr (apart_nil _) | exact .inr trivial | (right; apply apart_mk; simp only [apartL, List.nil_append, List.cons_append, List.getElem?_cons_succ, List.getElem?_cons_zero, Tch.free, and_true, true_and]; first | done | omega)) (by simp only [pt8, pt0, pt1, pt2, pt3, pt4, pt5, pt6, pt7]; rfl) ?_) | (refine WC.skip ?_) | (refine WC.block ?_) | (refine WC.em2 rfl (fun hp => ?_) (fun hp => ?_) <;> try (exfalso; first | omega | contradiction)))
    exact ⟨m - 1, by omega, _, i + 1, rfl, rfl, rfl, rfl, rfl, rfl, by omega⟩
  · have hi' : i = us.length := by omega
    subst hi'
    repeat' (first | (refine WO.opE (by intro; simp (disch := omega) only [go_sem, zeros, Zz.look, Zz.over, List.append_assoc, List.length_append, Nat.reduceAdd, Nat.reduceMul, Nat.reduceSub, Nat.reduceLeDiff, Nat.reduceEqDiff, Int.reduceNeg, Int.reduceAdd, Int.reduceToNat, reduceIte, reduceCtorEq]; rfl) (by simp only [pt8, pt0, pt1, pt2, pt3, pt4, pt5, pt6, pt7]; rfl) ?_) | (refine WO.opE (by intro; exact ev_lenS (by simp only [go_sem]; first | rfl | assumption)) (by simp only [pt8, pt0, pt1, pt2, pt3, pt4, pt5, pt6, pt7]; rfl) ?_) | (refine WC.seq ?_) | (refine WC.region ?_) | (refine WO.nil ?_) | (simp only [fl1, fl2, fl3, fl4, fl5, fl6, fl7, fl8, fl9, fl10, Nat.reduceBEq]) | (refine WC.exit ?_) | (refine WC.ret ?_) | (refine WC.em2 rfl (fun hp => ?_) (fun hp => ?_) <;> try (exfalso; first | omega | contradiction)))
    exact ⟨_, rfl, rfl⟩
end Go.Proofs.YtjbdefmhjmkifaaDoor

