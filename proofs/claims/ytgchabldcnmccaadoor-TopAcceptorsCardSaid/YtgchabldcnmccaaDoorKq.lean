import Derived.Test.YtgchabldcnmccaaDoorKp
set_option linter.unusedSimpArgs false
set_option linter.unusedVariables false

namespace Go.Proofs.YtgchabldcnmccaaDoor
open Go.Zz
set_option maxRecDepth 100000
set_option maxHeartbeats 8000000
noncomputable def E29 : Env := E28.put 9 (borrowE E28 9)
theorem E29_ok : EnvOk Tryd.prog E29 := Env.put_ok E28_ok (borrowE_ok E28_ok (callable Tryd.func9 (by kernel_rfl)))
theorem s5x {n : Int} {x z : AV} {ms : List Mv} {m : Mem} (hz : Zz.byVal m.heap z = some x) (hx : MvL x ms) (hbig : ms.length ≤ 1000000) : borrowX E11 5 [.int .i64 n, z] m = some (runV n ms, m) :=
  borrowX_of (by simp only [Zz.byVals, hz]; rfl) ((f5 hx hbig).mono fun y m' h => h.2)
noncomputable def E30 : Env := E29.put 5 (borrowX E11 5)
theorem E30_ok : EnvOk Tryd.prog E30 := Env.put_ok E29_ok (borrowX_ok E11_ok (callable Tryd.func5 (by kernel_rfl)))
structure Scr (H : Hp) (z : AV) (ms : List Mv) : Prop where
  len : slen z = some ms.length
  sub : ∀ i, i < ms.length → ∃ zi xi, (∀ V, sliceAV V 7 z none (some (.int .i64 ((i : Int) + 1))) none = some zi) ∧ (∀ V : Hp, (∀ j, j < H.length → V[j]? = H[j]?) → Zz.byVal V zi = some xi) ∧ MvL xi (ms.take (i + 1))
theorem slV_slen (l : List AV) (n : Nat) : slen (slV l n) = some n := by
  unfold slV
  split
  · rename_i h; rw [h]; rfl
  · rfl
theorem PmL.ofV (l : List Pm) : PmL (slV (pmF l) l.length) l := by
  have hcs : ∀ c ∈ l.map Pm.cells, c.length = 7 := by
    intro c hc
    obtain ⟨p, _, rfl⟩ := List.mem_map.1 hc
    rfl
  unfold slV
  split
  · rename_i h
    have : l = [] := List.eq_nil_of_length_eq_zero h
    subst this
    exact ⟨hcs, .inl ⟨rfl, rfl⟩⟩
  · exact ⟨hcs, .inr ⟨false, by rw [List.length_map]; rfl⟩⟩
theorem pm_last {l : List Pm} (h : 0 < l.length) : indexAddrAV 7 (slV (pmF l) l.length) (.int .i64 ((l.length : Int) - 1)) = some (.pval (.int .i64 (pmL l).d :: .int .i64 (pmL l).b :: .int .i64 (pmL l).w :: .int .i64 (pmL l).v.s :: .int .i64 (pmL l).v.c :: .int .i64 (pmL l).v.n :: .int .i64 (pmL l).v.d :: ptail l (l.length - 1))) := by
  have := (PmL.ofV l).at (i := l.length - 1) (by omega)
  have e : ((l.length - 1 : Nat) : Int) = (l.length : Int) - 1 := by omega
  rw [e] at this
  exact this
def vtail (l : List Vo) (i : Nat) : List AV := ((l.map Vo.cells).drop (i + 1)).flatten
theorem vo_last {l : List Vo} (h : 0 < l.length) : indexAddrAV 6 (slV (voF l) l.length) (.int .i64 ((l.length : Int) - 1)) = some (.pval (.int .i64 (voL l).d :: .int .i64 (voL l).b :: .int .i64 (voL l).v.s :: .int .i64 (voL l).v.c :: .int .i64 (voL l).v.n :: .int .i64 (voL l).v.d :: vtail l (l.length - 1))) := by
  have hcs : ∀ c ∈ l.map Vo.cells, c.length = 6 := by
    intro c hc
    obtain ⟨p, _, rfl⟩ := List.mem_map.1 hc
    rfl
  have hsl : SL 6 (slV (voF l) l.length) (l.map Vo.cells) := by
    unfold slV
    rw [if_neg (by omega)]
    exact ⟨hcs, .inr ⟨false, by rw [List.length_map]; rfl⟩⟩
  have := SL.at hsl (i := l.length - 1) (by simp; omega)
  have e : ((l.length - 1 : Nat) : Int) = (l.length : Int) - 1 := by omega
  rw [e] at this
  have e2 : voL l = l[l.length - 1]'(by omega) := by
    unfold voL
    rw [List.getD_eq_getElem?_getD, List.getElem?_eq_getElem (by omega)]
    rfl
  rw [e2]
  simpa [Vo.cells, Tk.cells, vtail] using this
def LastOk (c : List AV) (s : RS) : Prop := ∃ c0 c2, c = [c0, slV (pmF s.pms) s.pms.length, c2, slV (voF s.vos) s.vos.length]
structure At6 (H A : Hp) (rs : List Rc) (s : RS) : Prop where
  n : H.length + 3 ≤ A.length
  h : ∀ j, j < H.length → A[j]? = H[j]?
  z : Zz.look A H.length 0 = some [.snil, .int .i64 0]
  d : Zz.look A (H.length + 1) 0 = some [dV (FR rs), .int .i64 ((FR rs).length : Nat)]
  l : ∃ c0 c2, Zz.look A (H.length + 2) 0 = some [c0, slV (pmF s.pms) s.pms.length, c2, slV (voF s.vos) s.vos.length]
theorem At6.app {H A : Hp} {rs : List Rc} {s : RS} (h : At6 H A rs s) (R : Hp) : At6 H (A ++ R) rs s := by
  obtain ⟨c0, c2, hl⟩ := h.l
  have hn := h.n
  exact ⟨by rw [List.length_append]; omega, fun j hj => by rw [List.getElem?_append_left (by omega)]; exact h.h j hj, by rw [look_left (by omega)]; exact h.z, by rw [look_left (by omega)]; exact h.d, c0, c2, by rw [look_left (by omega)]; exact hl⟩
theorem At6.setL {H A : Hp} {rs : List Rc} {s s' : RS} {c0 c2 : AV} (h : At6 H A rs s) : At6 H (A.set (H.length + 2) (some ⟨0, [c0, slV (pmF s'.pms) s'.pms.length, c2, slV (voF s'.vos) s'.vos.length]⟩)) rs s' := by
  have hn := h.n
  have hk : ∀ j, j ≠ H.length + 2 → (A.set (H.length + 2) (some ⟨0, [c0, slV (pmF s'.pms) s'.pms.length, c2, slV (voF s'.vos) s'.vos.length]⟩))[j]? = A[j]? := fun j hj => List.getElem?_set_ne (Ne.symm hj)
  exact ⟨by rw [List.length_set]; exact hn, fun j hj => by rw [hk j (by omega)]; exact h.h j hj, by rw [look_of_get (hk _ (by omega))]; exact h.z, by rw [look_of_get (hk _ (by omega))]; exact h.d, c0, c2, look_set (by omega)⟩
theorem At6.setD {H A : Hp} {rs rs' : List Rc} {s : RS} (h : At6 H A rs s) : At6 H (A.set (H.length + 1) (some ⟨0, [dV (FR rs'), .int .i64 ((FR rs').length : Nat)]⟩)) rs' s := by
  have hn := h.n
  have hk : ∀ j, j ≠ H.length + 1 → (A.set (H.length + 1) (some ⟨0, [dV (FR rs'), .int .i64 ((FR rs').length : Nat)]⟩))[j]? = A[j]? := fun j hj => List.getElem?_set_ne (Ne.symm hj)
  obtain ⟨c0, c2, hl⟩ := h.l
  exact ⟨by rw [List.length_set]; exact hn, fun j hj => by rw [hk j (by omega)]; exact h.h j hj, by rw [look_of_get (hk _ (by omega))]; exact h.z, look_set (by omega), c0, c2, by rw [look_of_get (hk _ (by omega))]; exact hl⟩
theorem f6 {H : Hp} {L : List (Option ALoop)} {n k : Int} {z : AV} {ms : List Mv} (hz : Scr H z ms) (hr : RunOk n ms) (hk : DkOk k n) (h1 : ∀ m ∈ ms, m.k = 2 → m.v.s = 1) (h40 : ms.length ≤ 40) : WF E30 (.func 6 [] []) [.int .i64 n, z, .int .i64 k] ⟨H, L⟩ fun y m' => y = .tuple [.agg [dV (FR (recs n k ms ms.length)), .int .i64 ((FR (recs n k ms ms.length)).length : Nat)], .bool true] ∧ ∃ H', m' = ⟨H', L⟩ ∧ ∀ j, j < H.length → H'[j]? = H[j]? := by
  refine WF.fnE rfl (fn_of Tryd.func6 cir6) (by show 3 ≤ 122; decide) ?_
  unfold ir6; dsimp only [k0, kI, mV, oO, oG]
  simp only [padTo, List.replicate, List.nil_append, List.append_nil, List.cons_append]
  repeat' (first | (refine WO.opE (by intro; simp (disch := omega) only [go_sem, zeros, List.length_append, ov_one0, ov_one1, ov_one2, ov_one3, ov_all2, ov_all3, ov_all4, ov_all5, ov_all6, over7, cut7, cut4b, cut4c, fillP, Option.bind_eq_bind, Nat.reduceAdd, Nat.reduceMul, Nat.reduceSub, Nat.reduceLeDiff, Nat.reduceEqDiff, Int.reduceNeg, Int.reduceAdd, Int.reduceToNat, reduceIte, reduceCtorEq, lk0, lk1, lk2, List.append_assoc]; rfl) (by simp only [pt8, pt0, pt1, pt2, pt3, pt4, pt5, pt6, pt7]; rfl) ?_) | (refine WO.opE (by intro; exact ev_lenS (by simp only [go_sem]; exact hz.len)) (by simp only [pt8, pt0, pt1, pt2, pt3, pt4, pt5, pt6, pt7]; rfl) ?_) | (refine WC.seq ?_) | (refine WC.region ?_) | (refine WO.nil ?_) | (simp only [fl1, fl2, fl3, fl4, fl5, fl6, fl7, fl8, fl9, fl10, Nat.reduceBEq]) | (refine WC.block ?_))
  have hA0 : At6 H (H ++ [some ⟨0, [.snil, .int .i64 0]⟩, some ⟨0, [.snil, .int .i64 0]⟩, some ⟨0, [.snil, .snil, .snil, .snil]⟩]) (recs n k ms 0) (runM n (ms.take 0)) := by
    refine ⟨by simp, fun j hj => List.getElem?_append_left hj, lk0 rfl, lk1 rfl, .snil, .snil, lk2 rfl⟩
  generalize H ++ [some ⟨0, [.snil, .int .i64 0]⟩, some ⟨0, [.snil, .int .i64 0]⟩, some ⟨0, [.snil, .snil, .snil, .snil]⟩] = A0 at *
  refine WC.loopI (fun m s => ∃ T i A, s = ⟨T, A, L⟩ ∧ T.length = 122 ∧ gt T 0 = .int .i64 n ∧ gt T 1 = z ∧ gt T 2 = .int .i64 k ∧ gt T 6 = .pref H.length 0 0 ∧ gt T 7 = .bool false ∧ gt T 8 = .pref (H.length + 1) 0 0 ∧ gt T 9 = .pref (H.length + 2) 0 0 ∧ gt T 19 = z ∧ gt T 20 = .int .i64 (ms.length : Nat) ∧ gt T 21 = .int .i64 (i : Nat) ∧ m + i = ms.length ∧ At6 H A (recs n k ms i) (runM n (ms.take i))) ?_ ms.length _ ⟨_, 0, A0, rfl, rfl, rfl, rfl, rfl, rfl, rfl, rfl, rfl, rfl, rfl, rfl, by omega, hA0⟩
  clear hA0 A0
  rintro m _ ⟨T, i, A, rfl, hT, g0, g1, g2, g6, g7, g8, g9, g19, g20, g21, hml, hA⟩
  obtain ⟨f, rfl⟩ := ex122 hT
  clear hT
  replace g0 : f 0 = .int .i64 n := g0
  replace g1 : f 1 = z := g1
  replace g2 : f 2 = .int .i64 k := g2
  replace g6 : f 6 = .pref H.length 0 0 := g6
  replace g7 : f 7 = .bool false := g7
  replace g8 : f 8 = .pref (H.length + 1) 0 0 := g8
  replace g9 : f 9 = .pref (H.length + 2) 0 0 := g9
  replace g19 : f 19 = z := g19
  replace g20 : f 20 = .int .i64 (ms.length : Nat) := g20
  replace g21 : f 21 = .int .i64 (i : Nat) := g21
  simp only [g0, g1, g2, g6, g7, g8, g9, g19, g20, g21]
  have hn := hA.n
  have hd := hA.d
  have hzz := hA.z
  by_cases hi : i < ms.length
  · obtain ⟨zi, xi, hs1, hs2, hs3⟩ := hz.sub i hi
    have hri : RunOk n (ms.take (i + 1)) := ⟨hr.1, hr.2.1, by rw [List.length_take]; omega, fun m hm => hr.2.2.2 m (List.mem_of_mem_take hm)⟩
    have h5 : ∀ m : Mem, (∀ j, j < H.length → m.heap[j]? = H[j]?) → borrowX E11 5 [.int .i64 n, zi] m = some (.tuple [rsV (runM n (ms.take (i + 1))), .int .i64 0], m) := fun m hm => by
      rw [s5x (hs2 _ hm) hs3 (by rw [List.length_take]; omega)]
      unfold runV
      rw [if_pos hri]
    unfold rsV at h5
    obtain ⟨p1, p2, p3, -⟩ := recs_fold hr hk h1 i (by omega)
    obtain ⟨q1, q2, q3, -⟩ := recs_fold hr hk h1 (i + 1) (by omega)
    have hrec : recs n k ms (i + 1) = recs n k ms i ++ recs1 (recX k (runM n (ms.take i)) (runM n (ms.take (i + 1)))) := rfl
    obtain ⟨c0, c2, hl⟩ := hA.l
    generalize hs' : runM n (ms.take (i + 1)) = s' at *
    generalize runM n (ms.take i) = s at *
    have hd2 : ∀ R, Zz.look (A ++ R) (H.length + 1) 0 = some [dV (FR (recs n k ms i)), .int .i64 ((FR (recs n k ms i)).length : Nat)] := fun R => by rw [look_left (by omega)]; exact hd
    have hl2 : ∀ R, Zz.look (A ++ R) (H.length + 2) 0 = some [c0, slV (pmF s.pms) s.pms.length, c2, slV (voF s.vos) s.vos.length] := fun R => by rw [look_left (by omega)]; exact hl
    have hpl := pm_last (l := s'.pms)
    have hvl := vo_last (l := s'.vos)
    have hlp := slV_slen (pmF s'.pms) s'.pms.length
    have hsum : (FR (recs n k ms i)).length ≤ 520 := by have := FR_le (recs n k ms i); omega
    have h5a : borrowX E11 5 [.int .i64 n, zi] ⟨A, L⟩ = _ := h5 ⟨A, L⟩ hA.h
    have hk1 := q1.k
    have hsum2 : (FR (recs n k ms (i + 1))).length ≤ 533 := by have := FR_le (recs n k ms (i + 1)); omega
    have hX : (recX k s s').k ≠ 0 → R1 (recX k s s') := fun hne => q3 _ (by
      rw [hrec]
      unfold recs1
      rw [if_neg hne]
      simp)
    by_cases hv : s.vos.length < s'.vos.length ∧ (voL s'.vos).d = k
    · have hx : recX k s s' = ⟨2, 1, (voL s'.vos).b, (voL s'.vos).v⟩ := if_pos hv
      obtain ⟨hv1, hv2⟩ := hv
      repeat' (first | (refine WO.yes rfl ?_) | (refine WO.noE rfl (by simp only [pt8, pt0, pt1, pt2, pt3, pt4, pt5, pt6, pt7]; rfl) ?_) | (refine WO.opE (by intro; simp (disch := omega) only [go_sem, zeros, List.length_append, ov_one0, ov_one1, ov_one2, ov_one3, ov_all2, ov_all3, ov_all4, ov_all5, ov_all6, over7, cut7, cut4b, cut4c, fillP, Option.bind_eq_bind, Nat.reduceAdd, Nat.reduceMul, Nat.reduceSub, Nat.reduceLeDiff, Nat.reduceEqDiff, Int.reduceNeg, Int.reduceAdd, Int.reduceToNat, reduceIte, reduceCtorEq, hl, hl2, hpl, hvl, lk0, lk1, lk2, st0, st1, st2, setBlk, List.append_assoc]; rfl) (by simp only [pt8, pt0, pt1, pt2, pt3, pt4, pt5, pt6, pt7]; rfl) ?_) | (refine WO.opN (by intro; simp (disch := omega) only [go_sem, zeros, List.length_append, ov_one0, ov_one1, ov_one2, ov_one3, ov_all2, ov_all3, ov_all4, ov_all5, ov_all6, over7, cut7, cut4b, cut4c, fillP, Option.bind_eq_bind, Nat.reduceAdd, Nat.reduceMul, Nat.reduceSub, Nat.reduceLeDiff, Nat.reduceEqDiff, Int.reduceNeg, Int.reduceAdd, Int.reduceToNat, reduceIte, reduceCtorEq, hl, hl2, hpl, hvl, lk0, lk1, lk2, st0, st1, st2, setBlk, List.append_assoc]; rfl) ?_) | (refine WO.opE (by intro; exact ev_lenS (by simp only [go_sem]; first | rfl | assumption)) (by simp only [pt8, pt0, pt1, pt2, pt3, pt4, pt5, pt6, pt7]; rfl) ?_) | (refine WO.opE (by intro; exact ev_lenS (by simp only [go_sem]; exact slV_slen _ _)) (by simp only [pt8, pt0, pt1, pt2, pt3, pt4, pt5, pt6, pt7]; rfl) ?_) | (refine WO.specE rfl rfl (h5a) (by simp only [pt8, pt0, pt1, pt2, pt3, pt4, pt5, pt6, pt7]; rfl) ?_) | (refine WO.opE (by intro; rw [ev_slice]; exact congrArg (Option.map _) (hs1 _)) (by simp only [pt8, pt0, pt1, pt2, pt3, pt4, pt5, pt6, pt7]; rfl) ?_) | (refine WC.seq ?_) | (refine WC.region ?_) | (refine WO.nil ?_) | (simp only [fl1, fl2, fl3, fl4, fl5, fl6, fl7, fl8, fl9, fl10, Nat.reduceBEq]) | (refine WC.calm rfl ?_) | (refine WC.no rfl ?_) | (refine WC.skip ?_) | (refine WC.block ?_) | (refine WO.em2 rfl (by intro hp; simp only [hp, decide_true]; rfl) (by intro hp; simp only [hp, decide_false]; rfl) (fun hp => ?_) (fun hp => ?_) <;> try (exfalso; first | omega | contradiction)) | (refine WC.em2 rfl (fun hp => ?_) (fun hp => ?_) <;> try (exfalso; first | omega | contradiction)))
      all_goals rw [set_left (by omega)]
      all_goals have hA2 := hA.setL (s' := s') (c0 := .sval true s'.acs.length (acF s'.acs)) (c2 := slV (stF s'.sts) s'.sts.length)
      all_goals have hA2l : (A.set (H.length + 2) (some ⟨0, [.sval true s'.acs.length (acF s'.acs), slV (pmF s'.pms) s'.pms.length, slV (stF s'.sts) s'.sts.length, slV (voF s'.vos) s'.vos.length]⟩)).length = A.length := List.length_set
      all_goals generalize A.set (H.length + 2) (some ⟨0, [.sval true s'.acs.length (acF s'.acs), slV (pmF s'.pms) s'.pms.length, slV (stF s'.sts) s'.sts.length, slV (voF s'.vos) s'.vos.length]⟩) = A2 at *
      all_goals have hd4 := hA2.d
      all_goals have hd3 : ∀ R, Zz.look (A2 ++ R) (H.length + 1) 0 = some [dV (FR (recs n k ms i)), .int .i64 ((FR (recs n k ms i)).length : Nat)] := fun R => by rw [look_left (by omega)]; exact hd4
      all_goals (
        have hR : R1 ⟨2, 1, (voL s'.vos).b, (voL s'.vos).v⟩ := hx ▸ hX (by rw [hx]; simp)
        have hre : recs n k ms (i + 1) = recs n k ms i ++ [⟨2, 1, (voL s'.vos).b, (voL s'.vos).v⟩] := by rw [hrec, hx]; rfl
        have h12 : ∀ m, borrowE E26 12 [.agg [dV (FR (recs n k ms i)), .int .i64 ((FR (recs n k ms i)).length : Nat)], .agg [.int .i64 2, .int .i64 1, .int .i64 (voL s'.vos).b, .int .i64 (voL s'.vos).v.s, .int .i64 (voL s'.vos).v.c, .int .i64 (voL s'.vos).v.n, .int .i64 (voL s'.vos).v.d]] m = some (.tuple [.agg [dV (FR (recs n k ms (i + 1))), .int .i64 ((FR (recs n k ms i)).length : Nat)], .int .i64 0], m) := fun m => by
          rw [hre]
          exact s12 (dV_ok _) p3 hR (by have := frame_le ⟨2, 1, (voL s'.vos).b, (voL s'.vos).v⟩; omega) (by omega) (by omega)
        have hFl : (FR (recs n k ms i)).length ≤ (FR (recs n k ms (i + 1))).length := by rw [hre, FR_app, List.length_append]; omega
        have h13 : ∀ m, borrowE E20 13 [.agg [dV (FR (recs n k ms (i + 1))), .int .i64 ((FR (recs n k ms i)).length : Nat)]] m = some (.tuple [.agg [dV (FR (recs n k ms (i + 1))), .int .i64 ((FR (recs n k ms (i + 1))).length : Nat)], .int .i64 0], m) := fun m => s13 (dV_ok _) (by omega) ⟨by omega, by omega⟩
        have hcd := (dV_ok (FR (recs n k ms i))).by.cells
        have hce := (dV_ok (FR (recs n k ms (i + 1)))).by.cells
        unfold AV.cells at hcd hce)
      all_goals (
        repeat' (first | (refine WO.yes rfl ?_) | (refine WO.opE (by intro; simp (disch := omega) only [go_sem, zeros, List.length_append, ov_one0, ov_one1, ov_one2, ov_one3, ov_all2, ov_all3, ov_all4, ov_all5, ov_all6, over7, cut7, cut4b, cut4c, fillP, Option.bind_eq_bind, Nat.reduceAdd, Nat.reduceMul, Nat.reduceSub, Nat.reduceLeDiff, Nat.reduceEqDiff, Int.reduceNeg, Int.reduceAdd, Int.reduceToNat, reduceIte, reduceCtorEq, hcd, hce, hd3, lk0, lk1, lk2, st0, st1, st2, setBlk, List.append_assoc]; rfl) (by simp only [pt8, pt0, pt1, pt2, pt3, pt4, pt5, pt6, pt7]; rfl) ?_) | (refine WO.opN (by intro; simp (disch := omega) only [go_sem, zeros, List.length_append, ov_one0, ov_one1, ov_one2, ov_one3, ov_all2, ov_all3, ov_all4, ov_all5, ov_all6, over7, cut7, cut4b, cut4c, fillP, Option.bind_eq_bind, Nat.reduceAdd, Nat.reduceMul, Nat.reduceSub, Nat.reduceLeDiff, Nat.reduceEqDiff, Int.reduceNeg, Int.reduceAdd, Int.reduceToNat, reduceIte, reduceCtorEq, hcd, hce, hd3, lk0, lk1, lk2, st0, st1, st2, setBlk, List.append_assoc]; rfl) ?_) | (refine WO.specE rfl rfl (h12 _) (by simp only [pt8, pt0, pt1, pt2, pt3, pt4, pt5, pt6, pt7]; rfl) ?_) | (refine WO.specE rfl rfl (h13 _) (by simp only [pt8, pt0, pt1, pt2, pt3, pt4, pt5, pt6, pt7]; rfl) ?_) | (refine WC.seq ?_) | (refine WC.region ?_) | (refine WO.nil ?_) | (simp only [fl1, fl2, fl3, fl4, fl5, fl6, fl7, fl8, fl9, fl10, Nat.reduceBEq]) | (refine WC.no rfl ?_) | (refine WC.skip ?_))
      )
      all_goals rw [set_left (by omega)]
      all_goals exact ⟨m - 1, by omega, _, i + 1, _, rfl, rfl, rfl, rfl, rfl, rfl, rfl, rfl, rfl, rfl, rfl, rfl, by omega, by rw [hs']; exact (hA2.setD (rs' := recs n k ms (i + 1))).app _⟩
    by_cases hp : s.pms.length < s'.pms.length ∧ (pmL s'.pms).d = k
    · have hx : recX k s s' = ⟨1, 1, (pmL s'.pms).b, tk0⟩ := (if_neg hv).trans (if_pos hp)
      obtain ⟨hp1, hp2⟩ := hp
      repeat' (first | (refine WO.yes rfl ?_) | (refine WO.noE rfl (by simp only [pt8, pt0, pt1, pt2, pt3, pt4, pt5, pt6, pt7]; rfl) ?_) | (refine WO.opE (by intro; simp (disch := omega) only [go_sem, zeros, List.length_append, ov_one0, ov_one1, ov_one2, ov_one3, ov_all2, ov_all3, ov_all4, ov_all5, ov_all6, over7, cut7, cut4b, cut4c, fillP, Option.bind_eq_bind, Nat.reduceAdd, Nat.reduceMul, Nat.reduceSub, Nat.reduceLeDiff, Nat.reduceEqDiff, Int.reduceNeg, Int.reduceAdd, Int.reduceToNat, reduceIte, reduceCtorEq, hl, hl2, hpl, hvl, lk0, lk1, lk2, st0, st1, st2, setBlk, List.append_assoc]; rfl) (by simp only [pt8, pt0, pt1, pt2, pt3, pt4, pt5, pt6, pt7]; rfl) ?_) | (refine WO.opN (by intro; simp (disch := omega) only [go_sem, zeros, List.length_append, ov_one0, ov_one1, ov_one2, ov_one3, ov_all2, ov_all3, ov_all4, ov_all5, ov_all6, over7, cut7, cut4b, cut4c, fillP, Option.bind_eq_bind, Nat.reduceAdd, Nat.reduceMul, Nat.reduceSub, Nat.reduceLeDiff, Nat.reduceEqDiff, Int.reduceNeg, Int.reduceAdd, Int.reduceToNat, reduceIte, reduceCtorEq, hl, hl2, hpl, hvl, lk0, lk1, lk2, st0, st1, st2, setBlk, List.append_assoc]; rfl) ?_) | (refine WO.opE (by intro; exact ev_lenS (by simp only [go_sem]; first | rfl | assumption)) (by simp only [pt8, pt0, pt1, pt2, pt3, pt4, pt5, pt6, pt7]; rfl) ?_) | (refine WO.opE (by intro; exact ev_lenS (by simp only [go_sem]; exact slV_slen _ _)) (by simp only [pt8, pt0, pt1, pt2, pt3, pt4, pt5, pt6, pt7]; rfl) ?_) | (refine WO.specE rfl rfl (h5a) (by simp only [pt8, pt0, pt1, pt2, pt3, pt4, pt5, pt6, pt7]; rfl) ?_) | (refine WO.opE (by intro; rw [ev_slice]; exact congrArg (Option.map _) (hs1 _)) (by simp only [pt8, pt0, pt1, pt2, pt3, pt4, pt5, pt6, pt7]; rfl) ?_) | (refine WC.seq ?_) | (refine WC.region ?_) | (refine WO.nil ?_) | (simp only [fl1, fl2, fl3, fl4, fl5, fl6, fl7, fl8, fl9, fl10, Nat.reduceBEq]) | (refine WC.no rfl ?_) | (refine WC.skip ?_) | (refine WC.block ?_) | (refine WO.em2 rfl (by intro hp; simp only [hp, decide_true]; rfl) (by intro hp; simp only [hp, decide_false]; rfl) (fun hp => ?_) (fun hp => ?_) <;> try (exfalso; first | omega | contradiction)) | (refine WC.em2 rfl (fun hp => ?_) (fun hp => ?_) <;> try (exfalso; first | omega | contradiction)))
      all_goals rw [set_left (by omega)]
      all_goals have hA2 := hA.setL (s' := s') (c0 := .sval true s'.acs.length (acF s'.acs)) (c2 := slV (stF s'.sts) s'.sts.length)
      all_goals have hA2l : (A.set (H.length + 2) (some ⟨0, [.sval true s'.acs.length (acF s'.acs), slV (pmF s'.pms) s'.pms.length, slV (stF s'.sts) s'.sts.length, slV (voF s'.vos) s'.vos.length]⟩)).length = A.length := List.length_set
      all_goals generalize A.set (H.length + 2) (some ⟨0, [.sval true s'.acs.length (acF s'.acs), slV (pmF s'.pms) s'.pms.length, slV (stF s'.sts) s'.sts.length, slV (voF s'.vos) s'.vos.length]⟩) = A2 at *
      all_goals have hd4 := hA2.d
      all_goals have hd3 : ∀ R, Zz.look (A2 ++ R) (H.length + 1) 0 = some [dV (FR (recs n k ms i)), .int .i64 ((FR (recs n k ms i)).length : Nat)] := fun R => by rw [look_left (by omega)]; exact hd4
      all_goals (
        have hR : R1 ⟨1, 1, (pmL s'.pms).b, tk0⟩ := hx ▸ hX (by rw [hx]; simp)
        have hre : recs n k ms (i + 1) = recs n k ms i ++ [⟨1, 1, (pmL s'.pms).b, tk0⟩] := by rw [hrec, hx]; rfl
        have h12 : ∀ m, borrowE E26 12 [.agg [dV (FR (recs n k ms i)), .int .i64 ((FR (recs n k ms i)).length : Nat)], .agg [.int .i64 1, .int .i64 1, .int .i64 (pmL s'.pms).b, .int .i64 0, .int .i64 0, .int .i64 0, .int .i64 0]] m = some (.tuple [.agg [dV (FR (recs n k ms (i + 1))), .int .i64 ((FR (recs n k ms i)).length : Nat)], .int .i64 0], m) := fun m => by
          rw [hre]
          exact s12 (dV_ok _) p3 hR (by have := frame_le ⟨1, 1, (pmL s'.pms).b, tk0⟩; omega) (by omega) (by omega)
        have hFl : (FR (recs n k ms i)).length ≤ (FR (recs n k ms (i + 1))).length := by rw [hre, FR_app, List.length_append]; omega
        have h13 : ∀ m, borrowE E20 13 [.agg [dV (FR (recs n k ms (i + 1))), .int .i64 ((FR (recs n k ms i)).length : Nat)]] m = some (.tuple [.agg [dV (FR (recs n k ms (i + 1))), .int .i64 ((FR (recs n k ms (i + 1))).length : Nat)], .int .i64 0], m) := fun m => s13 (dV_ok _) (by omega) ⟨by omega, by omega⟩
        have hcd := (dV_ok (FR (recs n k ms i))).by.cells
        have hce := (dV_ok (FR (recs n k ms (i + 1)))).by.cells
        unfold AV.cells at hcd hce)
      all_goals (
        repeat' (first | (refine WO.yes rfl ?_) | (refine WO.opE (by intro; simp (disch := omega) only [go_sem, zeros, List.length_append, ov_one0, ov_one1, ov_one2, ov_one3, ov_all2, ov_all3, ov_all4, ov_all5, ov_all6, over7, cut7, cut4b, cut4c, fillP, Option.bind_eq_bind, Nat.reduceAdd, Nat.reduceMul, Nat.reduceSub, Nat.reduceLeDiff, Nat.reduceEqDiff, Int.reduceNeg, Int.reduceAdd, Int.reduceToNat, reduceIte, reduceCtorEq, hcd, hce, hd3, lk0, lk1, lk2, st0, st1, st2, setBlk, List.append_assoc]; rfl) (by simp only [pt8, pt0, pt1, pt2, pt3, pt4, pt5, pt6, pt7]; rfl) ?_) | (refine WO.opN (by intro; simp (disch := omega) only [go_sem, zeros, List.length_append, ov_one0, ov_one1, ov_one2, ov_one3, ov_all2, ov_all3, ov_all4, ov_all5, ov_all6, over7, cut7, cut4b, cut4c, fillP, Option.bind_eq_bind, Nat.reduceAdd, Nat.reduceMul, Nat.reduceSub, Nat.reduceLeDiff, Nat.reduceEqDiff, Int.reduceNeg, Int.reduceAdd, Int.reduceToNat, reduceIte, reduceCtorEq, hcd, hce, hd3, lk0, lk1, lk2, st0, st1, st2, setBlk, List.append_assoc]; rfl) ?_) | (refine WO.specE rfl rfl (h12 _) (by simp only [pt8, pt0, pt1, pt2, pt3, pt4, pt5, pt6, pt7]; rfl) ?_) | (refine WO.specE rfl rfl (h13 _) (by simp only [pt8, pt0, pt1, pt2, pt3, pt4, pt5, pt6, pt7]; rfl) ?_) | (refine WC.seq ?_) | (refine WC.region ?_) | (refine WO.nil ?_) | (simp only [fl1, fl2, fl3, fl4, fl5, fl6, fl7, fl8, fl9, fl10, Nat.reduceBEq]) | (refine WC.no rfl ?_) | (refine WC.skip ?_))
      )
      all_goals rw [set_left (by omega)]
      all_goals exact ⟨m - 1, by omega, _, i + 1, _, rfl, rfl, rfl, rfl, rfl, rfl, rfl, rfl, rfl, rfl, rfl, rfl, by omega, by rw [hs']; exact (hA2.setD (rs' := recs n k ms (i + 1))).app _⟩
    · have hx : recX k s s' = rc0 := (if_neg hv).trans (if_neg hp)
      repeat' (first | (refine WO.yes rfl ?_) | (refine WO.noE rfl (by simp only [pt8, pt0, pt1, pt2, pt3, pt4, pt5, pt6, pt7]; rfl) ?_) | (refine WO.opE (by intro; simp (disch := omega) only [go_sem, zeros, List.length_append, ov_one0, ov_one1, ov_one2, ov_one3, ov_all2, ov_all3, ov_all4, ov_all5, ov_all6, over7, cut7, cut4b, cut4c, fillP, Option.bind_eq_bind, Nat.reduceAdd, Nat.reduceMul, Nat.reduceSub, Nat.reduceLeDiff, Nat.reduceEqDiff, Int.reduceNeg, Int.reduceAdd, Int.reduceToNat, reduceIte, reduceCtorEq, hl, hl2, hpl, hvl, lk0, lk1, lk2, st0, st1, st2, setBlk, List.append_assoc]; rfl) (by simp only [pt8, pt0, pt1, pt2, pt3, pt4, pt5, pt6, pt7]; rfl) ?_) | (refine WO.opN (by intro; simp (disch := omega) only [go_sem, zeros, List.length_append, ov_one0, ov_one1, ov_one2, ov_one3, ov_all2, ov_all3, ov_all4, ov_all5, ov_all6, over7, cut7, cut4b, cut4c, fillP, Option.bind_eq_bind, Nat.reduceAdd, Nat.reduceMul, Nat.reduceSub, Nat.reduceLeDiff, Nat.reduceEqDiff, Int.reduceNeg, Int.reduceAdd, Int.reduceToNat, reduceIte, reduceCtorEq, hl, hl2, hpl, hvl, lk0, lk1, lk2, st0, st1, st2, setBlk, List.append_assoc]; rfl) ?_) | (refine WO.opE (by intro; exact ev_lenS (by simp only [go_sem]; first | rfl | assumption)) (by simp only [pt8, pt0, pt1, pt2, pt3, pt4, pt5, pt6, pt7]; rfl) ?_) | (refine WO.opE (by intro; exact ev_lenS (by simp only [go_sem]; exact slV_slen _ _)) (by simp only [pt8, pt0, pt1, pt2, pt3, pt4, pt5, pt6, pt7]; rfl) ?_) | (refine WO.specE rfl rfl (h5a) (by simp only [pt8, pt0, pt1, pt2, pt3, pt4, pt5, pt6, pt7]; rfl) ?_) | (refine WO.opE (by intro; rw [ev_slice]; exact congrArg (Option.map _) (hs1 _)) (by simp only [pt8, pt0, pt1, pt2, pt3, pt4, pt5, pt6, pt7]; rfl) ?_) | (refine WC.seq ?_) | (refine WC.region ?_) | (refine WO.nil ?_) | (simp only [fl1, fl2, fl3, fl4, fl5, fl6, fl7, fl8, fl9, fl10, Nat.reduceBEq]) | (refine WC.no rfl ?_) | (refine WC.skip ?_) | (refine WC.block ?_) | (refine WO.em2 rfl (by intro hp; simp only [hp, decide_true]; rfl) (by intro hp; simp only [hp, decide_false]; rfl) (fun hp => ?_) (fun hp => ?_) <;> try (exfalso; first | omega | contradiction)) | (refine WC.em2 rfl (fun hp => ?_) (fun hp => ?_) <;> try (exfalso; first | omega | contradiction)))
      all_goals rw [set_left (by omega)]
      all_goals have hA2 := hA.setL (s' := s') (c0 := .sval true s'.acs.length (acF s'.acs)) (c2 := slV (stF s'.sts) s'.sts.length)
      all_goals have hA2l : (A.set (H.length + 2) (some ⟨0, [.sval true s'.acs.length (acF s'.acs), slV (pmF s'.pms) s'.pms.length, slV (stF s'.sts) s'.sts.length, slV (voF s'.vos) s'.vos.length]⟩)).length = A.length := List.length_set
      all_goals generalize A.set (H.length + 2) (some ⟨0, [.sval true s'.acs.length (acF s'.acs), slV (pmF s'.pms) s'.pms.length, slV (stF s'.sts) s'.sts.length, slV (voF s'.vos) s'.vos.length]⟩) = A2 at *
      all_goals have hd4 := hA2.d
      all_goals have hd3 : ∀ R, Zz.look (A2 ++ R) (H.length + 1) 0 = some [dV (FR (recs n k ms i)), .int .i64 ((FR (recs n k ms i)).length : Nat)] := fun R => by rw [look_left (by omega)]; exact hd4
      all_goals (
        have hre : recs n k ms (i + 1) = recs n k ms i := by rw [hrec, hx]; exact List.append_nil _
        have hcd := (dV_ok (FR (recs n k ms i))).by.cells
        have hce := hcd
        unfold AV.cells at hcd hce)
      all_goals (
        repeat' (first | (refine WO.opE (by intro; simp (disch := omega) only [go_sem, zeros, List.length_append, ov_one0, ov_one1, ov_one2, ov_one3, ov_all2, ov_all3, ov_all4, ov_all5, ov_all6, over7, cut7, cut4b, cut4c, fillP, Option.bind_eq_bind, Nat.reduceAdd, Nat.reduceMul, Nat.reduceSub, Nat.reduceLeDiff, Nat.reduceEqDiff, Int.reduceNeg, Int.reduceAdd, Int.reduceToNat, reduceIte, reduceCtorEq, hcd, hce, hd3, lk0, lk1, lk2, st0, st1, st2, setBlk, List.append_assoc]; rfl) (by simp only [pt8, pt0, pt1, pt2, pt3, pt4, pt5, pt6, pt7]; rfl) ?_) | (refine WC.region ?_) | (refine WO.nil ?_) | (simp only [fl1, fl2, fl3, fl4, fl5, fl6, fl7, fl8, fl9, fl10, Nat.reduceBEq]) | (refine WC.yes rfl ?_) | (refine WC.exit ?_))
      )
      all_goals exact ⟨m - 1, by omega, _, i + 1, _, rfl, rfl, rfl, rfl, rfl, rfl, rfl, rfl, rfl, rfl, rfl, rfl, by omega, by rw [hs', hre]; exact hA2.app _⟩
  · have hie : i = ms.length := by omega
    subst hie
    have hls : ∀ c, Zz.look (A.set H.length (some ⟨0, c⟩)) H.length 0 = some c := fun c => look_set (by omega)
    have hcd := (dV_ok (FR (recs n k ms ms.length))).by.cells
    unfold AV.cells at hcd
    repeat' (first | (refine WO.opE (by intro; simp (disch := omega) only [go_sem, zeros, List.length_append, ov_one0, ov_one1, ov_one2, ov_one3, ov_all2, ov_all3, ov_all4, ov_all5, ov_all6, over7, cut7, cut4b, cut4c, fillP, Option.bind_eq_bind, Nat.reduceAdd, Nat.reduceMul, Nat.reduceSub, Nat.reduceLeDiff, Nat.reduceEqDiff, Int.reduceNeg, Int.reduceAdd, Int.reduceToNat, reduceIte, reduceCtorEq, hcd, hd, hzz, setBlk]; rfl) (by simp only [pt8, pt0, pt1, pt2, pt3, pt4, pt5, pt6, pt7]; rfl) ?_) | (refine WO.opN (by intro; simp (disch := omega) only [go_sem, zeros, List.length_append, ov_one0, ov_one1, ov_one2, ov_one3, ov_all2, ov_all3, ov_all4, ov_all5, ov_all6, over7, cut7, cut4b, cut4c, fillP, Option.bind_eq_bind, Nat.reduceAdd, Nat.reduceMul, Nat.reduceSub, Nat.reduceLeDiff, Nat.reduceEqDiff, Int.reduceNeg, Int.reduceAdd, Int.reduceToNat, reduceIte, reduceCtorEq, hcd, hd, hzz, setBlk]; rfl) ?_) | (refine WC.seq ?_) | (refine WC.region ?_) | (refine WO.nil ?_) | (simp only [fl1, fl2, fl3, fl4, fl5, fl6, fl7, fl8, fl9, fl10, Nat.reduceBEq]) | (refine WC.exit ?_) | (refine WC.ret ?_) | (refine WC.em2 rfl (fun hp => ?_) (fun hp => ?_) <;> try (exfalso; first | omega | contradiction)))
    refine ⟨[.agg [dV (FR (recs n k ms ms.length)), .int .i64 ((FR (recs n k ms ms.length)).length : Nat)], .bool true], ?_, rfl, _, rfl, fun j hj => ?_⟩
    · simp only [evRes, gt8, gt0, gt1, gt2, gt3, gt4, gt5, gt6, gt7, hls, Option.bind_some, loadCs]
      rfl
    · show (A.set H.length _)[j]? = H[j]?
      rw [List.getElem?_set_ne (by omega)]
      exact hA.h j hj
end Go.Proofs.YtgchabldcnmccaaDoor

