import Derived.Test.YtgchabldcnmccaaDoorKk
set_option linter.unusedSimpArgs false
set_option linter.unusedVariables false

namespace Go.Proofs.YtgchabldcnmccaaDoor
open Go.Zz
set_option maxRecDepth 100000
set_option maxHeartbeats 8000000
theorem f51 {x y : AV} {bs : List Int} (hx : ByS x bs) (hy : ByS y bs) (hlen : bs.length ≤ 1000000) : WF E16 (.func 51 [] []) [x, y] ⟨[], []⟩ fun y m' => y = .bool true := by
  refine WF.fnE rfl (fn_of Tryd.func51 cir51) (by show 2 ≤ 26; decide) ?_
  unfold ir51; dsimp only [k0, kI, mV, oO, oG]
  simp only [padTo, List.replicate, List.nil_append, List.append_nil, List.cons_append]
  repeat' (first | (refine WO.opE (by intro; simp (disch := omega) only [go_sem, zeros, List.length_append, ov_one0, ov_one1, ov_one2, ov_one3, ov_all2, ov_all3, ov_all4, ov_all5, ov_all6, over7, cut7, cut4b, cut4c, fillP, Option.bind_eq_bind, Nat.reduceAdd, Nat.reduceMul, Nat.reduceSub, Nat.reduceLeDiff, Nat.reduceEqDiff, Int.reduceNeg, Int.reduceAdd, Int.reduceToNat, reduceIte, reduceCtorEq]; rfl) (by simp only [pt8, pt0, pt1, pt2, pt3, pt4, pt5, pt6, pt7]; rfl) ?_) | (refine WO.opE (by intro; exact ev_lenS (by simp only [go_sem]; exact hx.len)) (by simp only [pt8, pt0, pt1, pt2, pt3, pt4, pt5, pt6, pt7]; rfl) ?_) | (refine WO.opE (by intro; exact ev_lenS (by simp only [go_sem]; exact hy.len)) (by simp only [pt8, pt0, pt1, pt2, pt3, pt4, pt5, pt6, pt7]; rfl) ?_) | (refine WC.seq ?_) | (refine WC.region ?_) | (refine WO.nil ?_) | (simp only [fl1, fl2, fl3, fl4, fl5, fl6, fl7, fl8, fl9, fl10, Nat.reduceBEq]) | (refine WC.no rfl ?_) | (refine WC.skip ?_) | (refine WC.block ?_))
  refine WC.loopI (fun m s => ∃ T i, s = ⟨T, [], []⟩ ∧ T.length = 26 ∧ gt T 0 = x ∧ gt T 1 = y ∧ gt T 4 = .bool false ∧ gt T 11 = x ∧ gt T 12 = .int .i64 (bs.length : Nat) ∧ gt T 13 = .int .i64 (i : Nat) ∧ m + i = bs.length) ?_ bs.length _ ⟨_, 0, rfl, rfl, rfl, rfl, rfl, rfl, rfl, rfl, by omega⟩
  rintro m _ ⟨T, i, rfl, hT, g0, g1, g4, g11, g12, g13, hml⟩
  obtain ⟨f, rfl⟩ := ex26 hT
  clear hT
  replace g0 : f 0 = x := g0
  replace g1 : f 1 = y := g1
  replace g4 : f 4 = .bool false := g4
  replace g11 : f 11 = x := g11
  replace g12 : f 12 = .int .i64 (bs.length : Nat) := g12
  replace g13 : f 13 = .int .i64 (i : Nat) := g13
  simp only [g0, g1, g4, g11, g12, g13]
  by_cases hi : i < bs.length
  · have hat := hx.at hi
    have hau := hy.at hi
    repeat' (first | (refine WO.opE (by intro; simp (disch := omega) only [go_sem, zeros, List.length_append, ov_one0, ov_one1, ov_one2, ov_one3, ov_all2, ov_all3, ov_all4, ov_all5, ov_all6, over7, cut7, cut4b, cut4c, fillP, Option.bind_eq_bind, Nat.reduceAdd, Nat.reduceMul, Nat.reduceSub, Nat.reduceLeDiff, Nat.reduceEqDiff, Int.reduceNeg, Int.reduceAdd, Int.reduceToNat, reduceIte, reduceCtorEq, hat, hau]; rfl) (by simp only [pt8, pt0, pt1, pt2, pt3, pt4, pt5, pt6, pt7]; rfl) ?_) | (refine WC.seq ?_) | (refine WC.region ?_) | (refine WO.nil ?_) | (simp only [fl1, fl2, fl3, fl4, fl5, fl6, fl7, fl8, fl9, fl10, Nat.reduceBEq]) | (refine WC.calm rfl ?_) | (refine WC.no rfl ?_) | (refine WC.skip ?_) | (refine WC.block ?_) | (refine WC.em2 rfl (fun hp => ?_) (fun hp => ?_) <;> try (exfalso; first | omega | contradiction)))
    all_goals first
      | (exfalso; omega)
      | exact ⟨m - 1, by omega, _, i + 1, rfl, rfl, rfl, rfl, rfl, rfl, rfl, rfl, by omega⟩
  · have hie : i = bs.length := by omega
    subst hie
    repeat' (first | (refine WO.opE (by intro; simp (disch := omega) only [go_sem, zeros, List.length_append, ov_one0, ov_one1, ov_one2, ov_one3, ov_all2, ov_all3, ov_all4, ov_all5, ov_all6, over7, cut7, cut4b, cut4c, fillP, Option.bind_eq_bind, Nat.reduceAdd, Nat.reduceMul, Nat.reduceSub, Nat.reduceLeDiff, Nat.reduceEqDiff, Int.reduceNeg, Int.reduceAdd, Int.reduceToNat, reduceIte, reduceCtorEq]; rfl) (by simp only [pt8, pt0, pt1, pt2, pt3, pt4, pt5, pt6, pt7]; rfl) ?_) | (refine WC.seq ?_) | (refine WC.region ?_) | (refine WO.nil ?_) | (simp only [fl1, fl2, fl3, fl4, fl5, fl6, fl7, fl8, fl9, fl10, Nat.reduceBEq]) | (refine WC.exit ?_) | (refine WC.ret ?_) | (refine WC.em2 rfl (fun hp => ?_) (fun hp => ?_) <;> try (exfalso; first | omega | contradiction)))
    exact ⟨_, rfl, rfl⟩
theorem s51 {x y : AV} {bs : List Int} (hx : ByS x bs) (hy : ByS y bs) (hlen : bs.length ≤ 1000000) {m : Mem} : borrowE E16 51 [x, y] m = some (.bool true, m) :=
  borrowE_of (by simp [hx.pureA, hy.pureA]) ((f51 hx hy hlen).mono fun y m' h => by rw [h]; rfl)
noncomputable def E17 : Env := E16.put 51 (borrowE E16 51)
theorem E17_ok : EnvOk Tryd.prog E17 := Env.put_ok E16_ok (borrowE_ok E16_ok (callable Tryd.func51 (by kernel_rfl)))
def DkN (x : AV) (bs : List Int) : Prop := (x = .snil ∧ bs = []) ∨ bs ≠ [] ∧ ∃ full, x = .sval full bs.length (uB bs)
theorem DkN.by {x : AV} {bs : List Int} (h : DkN x bs) : ByS x bs := by
  rcases h with h | ⟨_, h⟩
  · exact .inl h
  · exact .inr h
def dV (bs : List Int) : AV := slV (uB bs) bs.length
theorem dV_ok (bs : List Int) : DkN (dV bs) bs := by
  cases bs with
  | nil => exact .inl ⟨rfl, rfl⟩
  | cons b r => exact .inr ⟨by simp, false, rfl⟩
theorem DkN.cut {x : AV} {bs : List Int} (h : DkN x bs) (H : Hp) : ∃ y, sliceAV H 1 x none (some (.int .i64 (bs.length : Nat))) none = some y ∧ DkN y bs := by
  rcases h with ⟨rfl, rfl⟩ | ⟨h0, full, rfl⟩
  · exact ⟨.snil, rfl, .inl ⟨rfl, rfl⟩⟩
  · have hb : ∃ m, bnds bs.length (if full then some bs.length else none) none (some (.int .i64 (bs.length : Nat))) none = some (0, bs.length, m) := by
      cases full <;> simp [bnds, bndO, bnd]
    obtain ⟨m, hm⟩ := hb
    refine ⟨.sval (match m with | some c => c == bs.length | none => false) bs.length (uB bs), ?_, .inr ⟨h0, (match m with | some c => c == bs.length | none => false), rfl⟩⟩
    simp only [sliceAV, uB_len, Nat.mul_one, if_true, hm, Option.map_some]
    cases m <;> simp [← uB_len]
theorem f29 {x : AV} {bs : List Int} (hx : DkN x bs) (hlen : bs.length ≤ 100000) : WF E17 (.func 29 [] []) [x] ⟨[], []⟩ fun y m' => resV m'.heap y = some (dV bs) := by
  rcases hx with ⟨rfl, rfl⟩ | ⟨h0, full, rfl⟩
  · simp only [dV, slV, List.length_nil, if_true]
    refine WF.fnE rfl (fn_of Tryd.func29 cir29) (by show 1 ≤ 8; decide) ?_
    unfold ir29; dsimp only [k0, kI, mV, oO, oG]
    simp only [padTo, List.replicate, List.nil_append, List.append_nil, List.cons_append]
    repeat' (first | (refine WO.opE (by intro; simp (disch := omega) only [go_sem, zeros, List.length_append, ov_one0, ov_one1, ov_one2, ov_one3, ov_all2, ov_all3, ov_all4, ov_all5, ov_all6, over7, cut7, cut4b, cut4c, fillP, Option.bind_eq_bind, Nat.reduceAdd, Nat.reduceMul, Nat.reduceSub, Nat.reduceLeDiff, Nat.reduceEqDiff, Int.reduceNeg, Int.reduceAdd, Int.reduceToNat, reduceIte, reduceCtorEq, nilEqAV]; rfl) (by simp only [pt8, pt0, pt1, pt2, pt3, pt4, pt5, pt6, pt7]; rfl) ?_) | (refine WC.seq ?_) | (refine WC.region ?_) | (refine WO.nil ?_) | (simp only [fl1, fl2, fl3, fl4, fl5, fl6, fl7, fl8, fl9, fl10, Nat.reduceBEq]) | (refine WC.yes rfl ?_) | (refine WC.ret ?_))
    all_goals first
      | (exfalso; contradiction)
      | exact ⟨_, rfl, rfl⟩
  · have hd : dV bs = .sval false bs.length (uB bs) := if_neg (by have := List.length_pos_iff.2 h0; omega)
    rw [hd]
    refine WF.fnE rfl (fn_of Tryd.func29 cir29) (by show 1 ≤ 8; decide) ?_
    unfold ir29; dsimp only [k0, kI, mV, oO, oG]
    simp only [padTo, List.replicate, List.nil_append, List.append_nil, List.cons_append]
    repeat' (first | (refine WO.opE (by intro; simp (disch := omega) only [go_sem, zeros, List.length_append, ov_one0, ov_one1, ov_one2, ov_one3, ov_all2, ov_all3, ov_all4, ov_all5, ov_all6, over7, cut7, cut4b, cut4c, fillP, Option.bind_eq_bind, Nat.reduceAdd, Nat.reduceMul, Nat.reduceSub, Nat.reduceLeDiff, Nat.reduceEqDiff, Int.reduceNeg, Int.reduceAdd, Int.reduceToNat, reduceIte, reduceCtorEq, nilEqAV]; rfl) (by simp only [pt8, pt0, pt1, pt2, pt3, pt4, pt5, pt6, pt7]; rfl) ?_) | (refine WO.opE (by intro; rw [ev_append]; exact app_new (cs := []) (bs := bs) rfl ((ByS.mk bs full).scells _) rfl h0 (by simp; omega)) (by simp only [pt8, pt0, pt1, pt2, pt3, pt4, pt5, pt6, pt7]; rfl) ?_) | (refine WC.seq ?_) | (refine WC.region ?_) | (refine WO.nil ?_) | (simp only [fl1, fl2, fl3, fl4, fl5, fl6, fl7, fl8, fl9, fl10, Nat.reduceBEq]) | (refine WC.no rfl ?_) | (refine WC.skip ?_) | (refine WC.ret ?_))
    refine ⟨_, rfl, ?_⟩
    have e := newV_by (H := [some ⟨0, []⟩, some ⟨0, uB bs⟩]) (id := 1) (g := 0) (cap := none) (bs := bs) rfl
    show resV [some ⟨0, []⟩, some ⟨0, uB bs⟩] (.sref 1 0 0 1 ([] ++ bs : List Int).length none) = _
    simp only [List.nil_append, resV, resA, resC, Zz.look, List.getElem?_cons_succ, List.getElem?_cons_zero, if_true, uB_cut, uB_flat]
    rfl
theorem s29 {x : AV} {bs : List Int} (hx : DkN x bs) (hlen : bs.length ≤ 100000) {m : Mem} : borrowE E17 29 [x] m = some (dV bs, m) :=
  borrowE_of (by simp [hx.by.pureA]) (f29 hx hlen)
noncomputable def E18 : Env := E17.put 29 (borrowE E17 29)
theorem E18_ok : EnvOk Tryd.prog E18 := Env.put_ok E17_ok (borrowE_ok E17_ok (callable Tryd.func29 (by kernel_rfl)))
theorem disk_pure {x : AV} {bs : List Int} {s : Int} (hx : ByS x bs) : Zz.pureA (.agg [x, .int .i64 s]) = true := by
  show ([x, .int .i64 s] : List AV).all Zz.pureC = true
  rw [List.all_cons, hx.pureC]
  rfl
theorem dV_res (H : Hp) (bs : List Int) : resC H (dV bs) = some (dV bs) := by
  unfold dV slV
  split
  · rfl
  · simp only [resC, uB_flat, if_true]
theorem disk_res (H : Hp) (bs : List Int) (n : Int) : resA H (.agg [dV bs, .int .i64 n]) = some (.agg [dV bs, .int .i64 n]) := by
  simp only [resA, resL, dV_res]
  rfl
theorem disk_res2 (H : Hp) (bs : List Int) (n e : Int) : resV H (.tuple [.agg [dV bs, .int .i64 n], .int .i64 e]) = some (.tuple [.agg [dV bs, .int .i64 n], .int .i64 e]) := by
  simp only [resV, resT, disk_res]
  rfl
theorem f14 {x : AV} {bs : List Int} {s : Int} (hx : ByS x bs) : WF E18 (.func 14 [] []) [.agg [x, .int .i64 s]] ⟨[], []⟩ fun y m' => y = .bool (decide ((bs.length : Int) ≤ 100000 ∧ 0 ≤ s ∧ s ≤ bs.length)) := by
  have hcx := hx.cells
  unfold AV.cells at hcx
  refine WF.fnE rfl (fn_of Tryd.func14 cir14) (by show 1 ≤ 20; decide) ?_
  unfold ir14; dsimp only [k0, kI, mV, oO, oG]
  simp only [padTo, List.replicate, List.nil_append, List.append_nil, List.cons_append]
  repeat' (first | (refine WO.yes rfl ?_) | (refine WO.noE rfl (by simp only [pt8, pt0, pt1, pt2, pt3, pt4, pt5, pt6, pt7]; rfl) ?_) | (refine WO.opE (by intro; simp (disch := omega) only [go_sem, zeros, List.length_append, ov_one0, ov_one1, ov_one2, ov_one3, ov_all2, ov_all3, ov_all4, ov_all5, ov_all6, over7, cut7, cut4b, cut4c, fillP, Option.bind_eq_bind, Zz.look, Nat.reduceAdd, Nat.reduceMul, Nat.reduceSub, Nat.reduceLeDiff, Nat.reduceEqDiff, Int.reduceNeg, Int.reduceAdd, Int.reduceToNat, reduceIte, reduceCtorEq, hcx]; rfl) (by simp only [pt8, pt0, pt1, pt2, pt3, pt4, pt5, pt6, pt7]; rfl) ?_) | (refine WO.opE (by intro; exact ev_lenS (by simp only [go_sem]; exact hx.len)) (by simp only [pt8, pt0, pt1, pt2, pt3, pt4, pt5, pt6, pt7]; rfl) ?_) | (refine WC.seq ?_) | (refine WC.region ?_) | (refine WO.nil ?_) | (simp only [fl1, fl2, fl3, fl4, fl5, fl6, fl7, fl8, fl9, fl10, Nat.reduceBEq]) | (refine WC.ret ?_) | (refine WO.em2 rfl (by intro hp; simp only [hp, decide_true]; rfl) (by intro hp; simp only [hp, decide_false]; rfl) (fun hp => ?_) (fun hp => ?_) <;> try (exfalso; first | omega | contradiction)))
  all_goals refine ⟨_, rfl, ?_⟩
  all_goals simp only [oneRes, St.mem, AV.bool.injEq, gt8, gt0, gt1, gt2, gt3, gt4, gt5, gt6, gt7]
  all_goals first
    | rfl
    | (symm; rw [decide_eq_true_iff]; (try simp only [DkOk] at *); omega)
    | (symm; rw [decide_eq_false_iff_not]; (try simp only [DkOk] at *); omega)
    | (rw [decide_eq_decide]; (try simp only [DkOk] at *); omega)
theorem s14 {x : AV} {bs : List Int} {s : Int} (hx : ByS x bs) {m : Mem} : borrowE E18 14 [.agg [x, .int .i64 s]] m = some (.bool (decide ((bs.length : Int) ≤ 100000 ∧ 0 ≤ s ∧ s ≤ bs.length)), m) :=
  borrowE_of (by rw [List.all_cons, disk_pure hx]; rfl) ((f14 hx).mono fun y m' h => by rw [h]; rfl)
noncomputable def E19 : Env := E18.put 14 (borrowE E18 14)
theorem E19_ok : EnvOk Tryd.prog E19 := Env.put_ok E18_ok (borrowE_ok E18_ok (callable Tryd.func14 (by kernel_rfl)))
theorem f15 {x : AV} {bs : List Int} {s : Int} (hx : DkN x bs) (hlen : bs.length ≤ 100000) : WF E19 (.func 15 [] []) [.agg [x, .int .i64 s], .int .i64 (bs.length : Nat)] ⟨[], []⟩ fun y m' => resV m'.heap y = some (.agg [dV bs, .int .i64 (bs.length : Nat)]) := by
  obtain ⟨x', hc, hx'⟩ := hx.cut []
  have hcx := hx.by.cells
  unfold AV.cells at hcx
  have hcy := (dV_ok bs).by.cells
  unfold AV.cells at hcy
  have hc2 : ∀ H, sliceAV H 1 x none (some (.int .i64 (bs.length : Nat))) none = some x' := fun H => by
    rcases hx with ⟨rfl, rfl⟩ | ⟨h0, full, rfl⟩ <;> exact hc
  refine WF.fnE rfl (fn_of Tryd.func15 cir15) (by show 2 ≤ 12; decide) ?_
  unfold ir15; dsimp only [k0, kI, mV, oO, oG]
  simp only [padTo, List.replicate, List.nil_append, List.append_nil, List.cons_append]
  repeat' (first | (refine WO.opE (by intro; simp (disch := omega) only [go_sem, zeros, List.length_append, ov_one0, ov_one1, ov_one2, ov_one3, ov_all2, ov_all3, ov_all4, ov_all5, ov_all6, over7, cut7, cut4b, cut4c, fillP, Option.bind_eq_bind, Zz.look, Nat.reduceAdd, Nat.reduceMul, Nat.reduceSub, Nat.reduceLeDiff, Nat.reduceEqDiff, Int.reduceNeg, Int.reduceAdd, Int.reduceToNat, reduceIte, reduceCtorEq, hcx, hcy, hc2, setBlk, List.set_cons_succ, List.set_cons_zero]; rfl) (by simp only [pt8, pt0, pt1, pt2, pt3, pt4, pt5, pt6, pt7]; rfl) ?_) | (refine WO.opN (by intro; simp (disch := omega) only [go_sem, zeros, List.length_append, ov_one0, ov_one1, ov_one2, ov_one3, ov_all2, ov_all3, ov_all4, ov_all5, ov_all6, over7, cut7, cut4b, cut4c, fillP, Option.bind_eq_bind, Zz.look, Nat.reduceAdd, Nat.reduceMul, Nat.reduceSub, Nat.reduceLeDiff, Nat.reduceEqDiff, Int.reduceNeg, Int.reduceAdd, Int.reduceToNat, reduceIte, reduceCtorEq, hcx, hcy, hc2, setBlk, List.set_cons_succ, List.set_cons_zero]; rfl) ?_) | (refine WO.specE rfl rfl (s29 hx' hlen) (by simp only [pt8, pt0, pt1, pt2, pt3, pt4, pt5, pt6, pt7]; rfl) ?_) | (refine WO.opE (by intro; rw [ev_slice]; exact congrArg (Option.map _) (hc2 _)) (by simp only [pt8, pt0, pt1, pt2, pt3, pt4, pt5, pt6, pt7]; rfl) ?_) | (refine WC.seq ?_) | (refine WC.region ?_) | (refine WO.nil ?_) | (simp only [fl1, fl2, fl3, fl4, fl5, fl6, fl7, fl8, fl9, fl10, Nat.reduceBEq]) | (refine WC.ret ?_))
  exact ⟨[.agg [dV bs, .int .i64 (bs.length : Nat)]], rfl, disk_res _ _ _⟩
theorem s15 {x : AV} {bs : List Int} {s : Int} (hx : DkN x bs) (hlen : bs.length ≤ 100000) {m : Mem} : borrowE E19 15 [.agg [x, .int .i64 s], .int .i64 (bs.length : Nat)] m = some (.agg [dV bs, .int .i64 (bs.length : Nat)], m) :=
  borrowE_of (by rw [List.all_cons, disk_pure hx.by]; rfl) (f15 hx hlen)
noncomputable def E20 : Env := E19.put 15 (borrowE E19 15)
theorem E20_ok : EnvOk Tryd.prog E20 := Env.put_ok E19_ok (borrowE_ok E19_ok (callable Tryd.func15 (by kernel_rfl)))
theorem f13 {x : AV} {bs : List Int} {s : Int} (hx : DkN x bs) (hlen : bs.length ≤ 100000) (hs : 0 ≤ s ∧ s ≤ bs.length) : WF E20 (.func 13 [] []) [.agg [x, .int .i64 s]] ⟨[], []⟩ fun y m' => resV m'.heap y = some (.tuple [.agg [dV bs, .int .i64 (bs.length : Nat)], .int .i64 0]) := by
  have hcx := hx.by.cells
  unfold AV.cells at hcx
  have hcy := (dV_ok bs).by.cells
  unfold AV.cells at hcy
  refine WF.fnE rfl (fn_of Tryd.func13 cir13) (by show 1 ≤ 13; decide) ?_
  unfold ir13; dsimp only [k0, kI, mV, oO, oG]
  simp only [padTo, List.replicate, List.nil_append, List.append_nil, List.cons_append]
  repeat' (first | (refine WO.opE (by intro; simp (disch := omega) only [go_sem, zeros, List.length_append, ov_one0, ov_one1, ov_one2, ov_one3, ov_all2, ov_all3, ov_all4, ov_all5, ov_all6, over7, cut7, cut4b, cut4c, fillP, Option.bind_eq_bind, Zz.look, Nat.reduceAdd, Nat.reduceMul, Nat.reduceSub, Nat.reduceLeDiff, Nat.reduceEqDiff, Int.reduceNeg, Int.reduceAdd, Int.reduceToNat, reduceIte, reduceCtorEq, hcx, hcy, setBlk, List.set_cons_succ, List.set_cons_zero]; rfl) (by simp only [pt8, pt0, pt1, pt2, pt3, pt4, pt5, pt6, pt7]; rfl) ?_) | (refine WO.opN (by intro; simp (disch := omega) only [go_sem, zeros, List.length_append, ov_one0, ov_one1, ov_one2, ov_one3, ov_all2, ov_all3, ov_all4, ov_all5, ov_all6, over7, cut7, cut4b, cut4c, fillP, Option.bind_eq_bind, Zz.look, Nat.reduceAdd, Nat.reduceMul, Nat.reduceSub, Nat.reduceLeDiff, Nat.reduceEqDiff, Int.reduceNeg, Int.reduceAdd, Int.reduceToNat, reduceIte, reduceCtorEq, hcx, hcy, setBlk, List.set_cons_succ, List.set_cons_zero]; rfl) ?_) | (refine WO.specE rfl rfl (s14 hx.by) (by simp only [pt8, pt0, pt1, pt2, pt3, pt4, pt5, pt6, pt7]; rfl) ?_) | (refine WO.specE rfl rfl (s15 hx hlen) (by simp only [pt8, pt0, pt1, pt2, pt3, pt4, pt5, pt6, pt7]; rfl) ?_) | (refine WO.opE (by intro; exact ev_lenS (by simp only [go_sem]; exact hx.by.len)) (by simp only [pt8, pt0, pt1, pt2, pt3, pt4, pt5, pt6, pt7]; rfl) ?_) | (refine WC.seq ?_) | (refine WC.region ?_) | (refine WO.nil ?_) | (simp only [fl1, fl2, fl3, fl4, fl5, fl6, fl7, fl8, fl9, fl10, Nat.reduceBEq]) | (refine WC.skip ?_) | (refine WC.ret ?_) | (refine WC.em2 rfl (fun hp => ?_) (fun hp => ?_) <;> try (exfalso; first | omega | contradiction)))
  all_goals first
    | (exfalso; omega)
    | exact ⟨[.agg [dV bs, .int .i64 (bs.length : Nat)], .int .i64 0], rfl, disk_res2 _ _ _ _⟩
theorem s13 {x : AV} {bs : List Int} {s : Int} (hx : DkN x bs) (hlen : bs.length ≤ 100000) (hs : 0 ≤ s ∧ s ≤ bs.length) {m : Mem} : borrowE E20 13 [.agg [x, .int .i64 s]] m = some (.tuple [.agg [dV bs, .int .i64 (bs.length : Nat)], .int .i64 0], m) :=
  borrowE_of (by rw [List.all_cons, disk_pure hx.by]; rfl) (f13 hx hlen hs)
noncomputable def E21 : Env := E20.put 13 (borrowE E20 13)
theorem E21_ok : EnvOk Tryd.prog E21 := Env.put_ok E20_ok (borrowE_ok E20_ok (callable Tryd.func13 (by kernel_rfl)))
theorem f7 {x : AV} {bs : List Int} {k : Int} (hx : DkN x bs) (hlen : bs.length ≤ 100000) (hk : 0 ≤ k) : WF E21 (.func 7 [] []) [.agg [x, .int .i64 (bs.length : Nat)], .int .i64 k] ⟨[], []⟩ fun y m' => resV m'.heap y = some (.tuple [.agg [dV bs, .int .i64 (bs.length : Nat)], .int .i64 0]) := by
  have hcx := hx.by.cells
  unfold AV.cells at hcx
  have hcy := (dV_ok bs).by.cells
  unfold AV.cells at hcy
  have hmin : (bs.length : Int) + min k ((bs.length : Int) - bs.length) = bs.length := by omega
  refine WF.fnE rfl (fn_of Tryd.func7 cir7) (by show 2 ≤ 27; decide) ?_
  unfold ir7; dsimp only [k0, kI, mV, oO, oG]
  simp only [padTo, List.replicate, List.nil_append, List.append_nil, List.cons_append]
  repeat' (first | (refine WO.yes rfl ?_) | (refine WO.opE (by intro; simp (disch := omega) only [go_sem, zeros, List.length_append, ov_one0, ov_one1, ov_one2, ov_one3, ov_all2, ov_all3, ov_all4, ov_all5, ov_all6, over7, cut7, cut4b, cut4c, fillP, Option.bind_eq_bind, Zz.look, Nat.reduceAdd, Nat.reduceMul, Nat.reduceSub, Nat.reduceLeDiff, Nat.reduceEqDiff, Int.reduceNeg, Int.reduceAdd, Int.reduceToNat, reduceIte, reduceCtorEq, hmin, hcx, hcy, setBlk, List.set_cons_succ, List.set_cons_zero]; rfl) (by simp only [pt8, pt0, pt1, pt2, pt3, pt4, pt5, pt6, pt7]; rfl) ?_) | (refine WO.opN (by intro; simp (disch := omega) only [go_sem, zeros, List.length_append, ov_one0, ov_one1, ov_one2, ov_one3, ov_all2, ov_all3, ov_all4, ov_all5, ov_all6, over7, cut7, cut4b, cut4c, fillP, Option.bind_eq_bind, Zz.look, Nat.reduceAdd, Nat.reduceMul, Nat.reduceSub, Nat.reduceLeDiff, Nat.reduceEqDiff, Int.reduceNeg, Int.reduceAdd, Int.reduceToNat, reduceIte, reduceCtorEq, hmin, hcx, hcy, setBlk, List.set_cons_succ, List.set_cons_zero]; rfl) ?_) | (refine WO.specE rfl rfl (s14 hx.by) (by simp only [pt8, pt0, pt1, pt2, pt3, pt4, pt5, pt6, pt7]; rfl) ?_) | (refine WO.specE rfl rfl (s15 hx hlen) (by simp only [pt8, pt0, pt1, pt2, pt3, pt4, pt5, pt6, pt7]; rfl) ?_) | (refine WO.opE (by intro; exact ev_lenS (by simp only [go_sem]; exact hx.by.len)) (by simp only [pt8, pt0, pt1, pt2, pt3, pt4, pt5, pt6, pt7]; rfl) ?_) | (refine WC.seq ?_) | (refine WC.region ?_) | (refine WO.nil ?_) | (simp only [fl1, fl2, fl3, fl4, fl5, fl6, fl7, fl8, fl9, fl10, Nat.reduceBEq]) | (refine WC.skip ?_) | (refine WC.ret ?_) | (refine WO.em2 rfl (by intro hp; simp only [hp, decide_true]; rfl) (by intro hp; simp only [hp, decide_false]; rfl) (fun hp => ?_) (fun hp => ?_) <;> try (exfalso; first | omega | contradiction)) | (refine WC.em2 rfl (fun hp => ?_) (fun hp => ?_) <;> try (exfalso; first | omega | contradiction)))
  all_goals first
    | (exfalso; omega)
    | exact ⟨[.agg [dV bs, .int .i64 (bs.length : Nat)], .int .i64 0], rfl, disk_res2 _ _ _ _⟩
theorem s7 {x : AV} {bs : List Int} {k : Int} (hx : DkN x bs) (hlen : bs.length ≤ 100000) (hk : 0 ≤ k) {m : Mem} : borrowE E21 7 [.agg [x, .int .i64 (bs.length : Nat)], .int .i64 k] m = some (.tuple [.agg [dV bs, .int .i64 (bs.length : Nat)], .int .i64 0], m) :=
  borrowE_of (by rw [List.all_cons, disk_pure hx.by]; rfl) (f7 hx hlen hk)
noncomputable def E22 : Env := E21.put 7 (borrowE E21 7)
theorem E22_ok : EnvOk Tryd.prog E22 := Env.put_ok E21_ok (borrowE_ok E21_ok (callable Tryd.func7 (by kernel_rfl)))
end Go.Proofs.YtgchabldcnmccaaDoor

