import Derived.Test.YtgchabldcnmccaaDoorKm
set_option linter.unusedSimpArgs false
set_option linter.unusedVariables false

namespace Go.Proofs.YtgchabldcnmccaaDoor
open Go.Zz
set_option maxRecDepth 100000
set_option maxHeartbeats 8000000
theorem f31 {r : Rc} : WF E23 (.func 31 [] []) [.agg [.int .i64 r.k, .int .i64 r.s, .int .i64 r.b, .int .i64 r.v.s, .int .i64 r.v.c, .int .i64 r.v.n, .int .i64 r.v.d]] ⟨[], []⟩ fun y m' => y = .bool (decide (¬RcOk r)) := by
  refine WF.fnE rfl (fn_of Tryd.func31 cir31) (by show 1 ≤ 6; decide) ?_
  unfold ir31; dsimp only [k0, kI, mV, oO, oG]
  simp only [padTo, List.replicate, List.nil_append, List.append_nil, List.cons_append]
  repeat' (first | (refine WO.opE (by intro; simp (disch := omega) only [go_sem, zeros, List.length_append, ov_one0, ov_one1, ov_one2, ov_one3, ov_all2, ov_all3, ov_all4, ov_all5, ov_all6, over7, cut7, cut4b, cut4c, fillP, Option.bind_eq_bind, Zz.look, Nat.reduceAdd, Nat.reduceMul, Nat.reduceSub, Nat.reduceLeDiff, Nat.reduceEqDiff, Int.reduceNeg, Int.reduceAdd, Int.reduceToNat, reduceIte, reduceCtorEq]; rfl) (by simp only [pt8, pt0, pt1, pt2, pt3, pt4, pt5, pt6, pt7]; rfl) ?_) | (refine WO.specE rfl rfl (s26 (r := r)) (by simp only [pt8, pt0, pt1, pt2, pt3, pt4, pt5, pt6, pt7]; rfl) ?_) | (refine WC.seq ?_) | (refine WC.region ?_) | (refine WO.nil ?_) | (simp only [fl1, fl2, fl3, fl4, fl5, fl6, fl7, fl8, fl9, fl10, Nat.reduceBEq]) | (refine WC.ret ?_))
  exact ⟨_, rfl, rfl⟩
theorem s31 {r : Rc} {m : Mem} : borrowE E23 31 [.agg [.int .i64 r.k, .int .i64 r.s, .int .i64 r.b, .int .i64 r.v.s, .int .i64 r.v.c, .int .i64 r.v.n, .int .i64 r.v.d]] m = some (.bool (decide (¬RcOk r)), m) :=
  borrowE_of rfl (f31.mono fun y m' h => by rw [h]; rfl)
noncomputable def E24 : Env := E23.put 31 (borrowE E23 31)
theorem E24_ok : EnvOk Tryd.prog E24 := Env.put_ok E23_ok (borrowE_ok E23_ok (callable Tryd.func31 (by kernel_rfl)))
def RcL (x : AV) (rs : List Rc) : Prop := SL 7 x (rs.map Rc.cells)
theorem RcL.len {x : AV} {rs : List Rc} (h : RcL x rs) : slen x = some rs.length := by
  have := SL.len h
  rwa [List.length_map] at this
def rtail (rs : List Rc) (i : Nat) : List AV := ((rs.map Rc.cells).drop (i + 1)).flatten
theorem RcL.at {x : AV} {rs : List Rc} (h : RcL x rs) {i : Nat} (hi : i < rs.length) : indexAddrAV 7 x (.int .i64 (i : Int)) = some (.pval (.int .i64 (rnth rs i).k :: .int .i64 (rnth rs i).s :: .int .i64 (rnth rs i).b :: .int .i64 (rnth rs i).v.s :: .int .i64 (rnth rs i).v.c :: .int .i64 (rnth rs i).v.n :: .int .i64 (rnth rs i).v.d :: rtail rs i)) := by
  have := SL.at h (i := i) (by simpa using hi)
  have e : rnth rs i = rs[i] := by simp [rnth, hi]
  rw [e]
  simpa [Rc.cells, rtail] using this
theorem RcL.ofV (rs : List Rc) : RcL (slV (rcF rs) rs.length) rs := by
  have hcs : ∀ c ∈ rs.map Rc.cells, c.length = 7 := by
    intro c hc
    obtain ⟨p, _, rfl⟩ := List.mem_map.1 hc
    rfl
  unfold slV
  split
  · rename_i h
    have : rs = [] := List.eq_nil_of_length_eq_zero h
    subst this
    exact ⟨hcs, .inl ⟨rfl, rfl⟩⟩
  · exact ⟨hcs, .inr ⟨false, by rw [List.length_map]; rfl⟩⟩
theorem f39 {H : Hp} {L : List (Option ALoop)} {z : AV} {rs : List Rc} (hz : RcL z rs) (hr : ∀ r ∈ rs, RcOk r) (hn : rs.length ≤ 1000) : WF E24 (.func 39 [] []) [z, .func 31 [] []] ⟨H, L⟩ fun y m' => y = .int .i64 (-1) ∧ m' = ⟨H, L⟩ := by
  refine WF.fnE rfl (fn_of Tryd.func39 cir39) (by show 2 ≤ 19; decide) ?_
  unfold ir39; dsimp only [k0, kI, mV, oO, oG]
  simp only [padTo, List.replicate, List.nil_append, List.append_nil, List.cons_append]
  repeat' (first | (refine WO.opE (by intro; simp (disch := omega) only [go_sem, zeros, List.length_append, ov_one0, ov_one1, ov_one2, ov_one3, ov_all2, ov_all3, ov_all4, ov_all5, ov_all6, over7, cut7, cut4b, cut4c, fillP, Option.bind_eq_bind, Nat.reduceAdd, Nat.reduceMul, Nat.reduceSub, Nat.reduceLeDiff, Nat.reduceEqDiff, Int.reduceNeg, Int.reduceAdd, Int.reduceToNat, reduceIte, reduceCtorEq]; rfl) (by simp only [pt8, pt0, pt1, pt2, pt3, pt4, pt5, pt6, pt7]; rfl) ?_) | (refine WO.opE (by intro; exact ev_lenS (by simp only [go_sem]; exact hz.len)) (by simp only [pt8, pt0, pt1, pt2, pt3, pt4, pt5, pt6, pt7]; rfl) ?_) | (refine WC.seq ?_) | (refine WC.region ?_) | (refine WO.nil ?_) | (simp only [fl1, fl2, fl3, fl4, fl5, fl6, fl7, fl8, fl9, fl10, Nat.reduceBEq]) | (refine WC.block ?_))
  refine WC.loopI (fun m s => ∃ T i, s = ⟨T, H, L⟩ ∧ T.length = 19 ∧ gt T 0 = z ∧ gt T 1 = .func 31 [] [] ∧ gt T 6 = z ∧ gt T 7 = .int .i64 (rs.length : Nat) ∧ gt T 8 = .int .i64 (i : Nat) ∧ m + i = rs.length) ?_ rs.length _ ⟨_, 0, rfl, rfl, rfl, rfl, rfl, rfl, rfl, by omega⟩
  rintro m _ ⟨T, i, rfl, hT, g0, g1, g6, g7, g8, hml⟩
  obtain ⟨f, rfl⟩ := ex19 hT
  clear hT
  replace g0 : f 0 = z := g0
  replace g1 : f 1 = .func 31 [] [] := g1
  replace g6 : f 6 = z := g6
  replace g7 : f 7 = .int .i64 (rs.length : Nat) := g7
  replace g8 : f 8 = .int .i64 (i : Nat) := g8
  simp only [g0, g1, g6, g7, g8]
  by_cases hi : i < rs.length
  · have hat := hz.at hi
    have hok : decide (RcOk (rnth rs i)) = true := decide_eq_true (by
      have e : rnth rs i = rs[i] := by simp [rnth, hi]
      rw [e]
      exact hr _ (List.getElem_mem hi))
    have hsp : ∀ m, borrowE E23 31 [.agg [.int .i64 (rnth rs i).k, .int .i64 (rnth rs i).s, .int .i64 (rnth rs i).b, .int .i64 (rnth rs i).v.s, .int .i64 (rnth rs i).v.c, .int .i64 (rnth rs i).v.n, .int .i64 (rnth rs i).v.d]] m = some (.bool false, m) := fun m => by
      rw [s31, show decide (¬RcOk (rnth rs i)) = false by simpa using hok]
    generalize rnth rs i = r at *
    repeat' (first | (refine WO.opE (by intro; simp (disch := omega) only [go_sem, zeros, List.length_append, ov_one0, ov_one1, ov_one2, ov_one3, ov_all2, ov_all3, ov_all4, ov_all5, ov_all6, over7, cut7, cut4b, cut4c, fillP, Option.bind_eq_bind, Nat.reduceAdd, Nat.reduceMul, Nat.reduceSub, Nat.reduceLeDiff, Nat.reduceEqDiff, Int.reduceNeg, Int.reduceAdd, Int.reduceToNat, reduceIte, reduceCtorEq, hat]; rfl) (by simp only [pt8, pt0, pt1, pt2, pt3, pt4, pt5, pt6, pt7]; rfl) ?_) | (refine WO.ispec rfl rfl rfl (hsp _) (by simp only [pt8, pt0, pt1, pt2, pt3, pt4, pt5, pt6, pt7]; rfl) ?_) | (refine WC.seq ?_) | (refine WC.region ?_) | (refine WO.nil ?_) | (simp only [fl1, fl2, fl3, fl4, fl5, fl6, fl7, fl8, fl9, fl10, Nat.reduceBEq]) | (refine WC.no rfl ?_) | (refine WC.skip ?_) | (refine WC.block ?_) | (refine WC.em2 rfl (fun hp => ?_) (fun hp => ?_) <;> try (exfalso; first | omega | contradiction)))
    exact ⟨m - 1, by omega, _, i + 1, rfl, rfl, rfl, rfl, rfl, rfl, rfl, by omega⟩
  · have hie : i = rs.length := by omega
    subst hie
    repeat' (first | (refine WO.opE (by intro; simp (disch := omega) only [go_sem, zeros, List.length_append, ov_one0, ov_one1, ov_one2, ov_one3, ov_all2, ov_all3, ov_all4, ov_all5, ov_all6, over7, cut7, cut4b, cut4c, fillP, Option.bind_eq_bind, Nat.reduceAdd, Nat.reduceMul, Nat.reduceSub, Nat.reduceLeDiff, Nat.reduceEqDiff, Int.reduceNeg, Int.reduceAdd, Int.reduceToNat, reduceIte, reduceCtorEq]; rfl) (by simp only [pt8, pt0, pt1, pt2, pt3, pt4, pt5, pt6, pt7]; rfl) ?_) | (refine WC.seq ?_) | (refine WC.region ?_) | (refine WO.nil ?_) | (simp only [fl1, fl2, fl3, fl4, fl5, fl6, fl7, fl8, fl9, fl10, Nat.reduceBEq]) | (refine WC.exit ?_) | (refine WC.ret ?_) | (refine WC.em2 rfl (fun hp => ?_) (fun hp => ?_) <;> try (exfalso; first | omega | contradiction)))
    exact ⟨_, rfl, rfl, rfl⟩
theorem f30 {H : Hp} {L : List (Option ALoop)} {z : AV} {rs : List Rc} (hz : RcL z rs) (hr : ∀ r ∈ rs, RcOk r) (hn : rs.length ≤ 1000) : WF E24 (.func 30 [] []) [z, .func 31 [] []] ⟨H, L⟩ fun y m' => y = .bool false ∧ m' = ⟨H, L⟩ := by
  refine WF.fnE rfl (fn_of Tryd.func30 cir30) (by show 2 ≤ 9; decide) ?_
  unfold ir30; dsimp only [k0, kI, mV, oO, oG]
  simp only [padTo, List.replicate, List.nil_append, List.append_nil, List.cons_append]
  repeat' (first | (refine WO.opE (by intro; simp (disch := omega) only [go_sem, zeros, List.length_append, ov_one0, ov_one1, ov_one2, ov_one3, ov_all2, ov_all3, ov_all4, ov_all5, ov_all6, over7, cut7, cut4b, cut4c, fillP, Option.bind_eq_bind, Nat.reduceAdd, Nat.reduceMul, Nat.reduceSub, Nat.reduceLeDiff, Nat.reduceEqDiff, Int.reduceNeg, Int.reduceAdd, Int.reduceToNat, reduceIte, reduceCtorEq]; rfl) (by simp only [pt8, pt0, pt1, pt2, pt3, pt4, pt5, pt6, pt7]; rfl) ?_) | (refine WC.seq ?_) | (refine WC.region ?_) | (refine WO.nil ?_) | (simp only [fl1, fl2, fl3, fl4, fl5, fl6, fl7, fl8, fl9, fl10, Nat.reduceBEq]))
  refine WO.call rfl rfl ((f39 hz hr hn).mono ?_)
  rintro y _ ⟨rfl, rfl⟩
  simp only [pt8, pt0, pt1, pt2, pt3, pt4, pt5, pt6, pt7]
  repeat' (first | (refine WO.opE (by intro; simp (disch := omega) only [go_sem, zeros, List.length_append, ov_one0, ov_one1, ov_one2, ov_one3, ov_all2, ov_all3, ov_all4, ov_all5, ov_all6, over7, cut7, cut4b, cut4c, fillP, Option.bind_eq_bind, Nat.reduceAdd, Nat.reduceMul, Nat.reduceSub, Nat.reduceLeDiff, Nat.reduceEqDiff, Int.reduceNeg, Int.reduceAdd, Int.reduceToNat, reduceIte, reduceCtorEq]; rfl) (by simp only [pt8, pt0, pt1, pt2, pt3, pt4, pt5, pt6, pt7]; rfl) ?_) | (refine WO.nil ?_) | (refine WC.ret ?_))
  exact ⟨_, rfl, rfl, rfl⟩
def deedsEs : List AV := [.int .i64 1, .func 40 [] [], .int .i64 2, .func 42 [] [], .int .i64 3, .func 43 [] []]
theorem f32 {H : Hp} {L : List (Option ALoop)} : WF E24 (.func 32 [] []) [] ⟨H, L⟩ fun y m' => y = .mref L.length ∧ m' = ⟨H, L ++ [some (mapObj deedsEs)]⟩ := by
  have hm : ∀ x : Option ALoop, (L ++ [x])[L.length]? = some x := fun x => by simp
  have hset : ∀ x y : Option ALoop, (L ++ [x]).set L.length y = L ++ [y] := fun x y => by simp
  refine WF.fnE rfl (fn_of Tryd.func32 cir32) (by show 0 ≤ 3; decide) ?_
  unfold ir32; dsimp only [k0, kI, mV, oO, oG]
  simp only [padTo, List.replicate, List.nil_append, List.append_nil, List.cons_append]
  repeat' (first | (refine WO.opE (by intro; simp (disch := omega) only [go_sem, zeros, List.length_append, ov_one0, ov_one1, ov_one2, ov_one3, ov_all2, ov_all3, ov_all4, ov_all5, ov_all6, over7, cut7, cut4b, cut4c, fillP, Option.bind_eq_bind, Nat.reduceAdd, Nat.reduceMul, Nat.reduceSub, Nat.reduceLeDiff, Nat.reduceEqDiff, Int.reduceNeg, Int.reduceAdd, Int.reduceToNat, reduceIte, reduceCtorEq]; rfl) (by simp only [pt8, pt0, pt1, pt2, pt3, pt4, pt5, pt6, pt7]; rfl) ?_) | (refine WO.opN (by intro; refine Eq.trans (ev_mapSet rfl rfl (hm _) rfl) ?_; simp only [hset]; rfl) ?_) | (refine WC.seq ?_) | (refine WC.region ?_) | (refine WO.nil ?_) | (simp only [fl1, fl2, fl3, fl4, fl5, fl6, fl7, fl8, fl9, fl10, Nat.reduceBEq]) | (refine WC.ret ?_))
  exact ⟨_, rfl, rfl, rfl⟩
structure FoldAt (H : Hp) (l : List Ac) (za : AV) : Prop where
  z : Zz.look H 0 0 = some [.snil, .snil]
  m : Zz.look H 1 0 = some [za, .snil]
  a : za = .snil ∧ l = [] ∨ ∃ ab a, 2 ≤ ab ∧ za = .sref ab 0 0 6 1 none ∧ l = [a] ∧ Zz.look H ab 0 = some a.cells
def FoldOne (H : Hp) (ab : Nat) (a : Ac) : Prop := 2 ≤ ab ∧ Zz.look H 0 0 = some [.snil, .snil] ∧ Zz.look H 1 0 = some [.sref ab 0 0 6 1 none, .snil] ∧ Zz.look H ab 0 = some a.cells
theorem f41 {H : Hp} {L : List (Option ALoop)} {l : List Ac} {za : AV} (h : FoldAt H l za) : WF E24 (.func 41 [] []) [.pref 1 0 0, .int .i64 1] ⟨H, L⟩ fun y m' => ∃ ab H', y = .pref ab 0 0 ∧ m' = ⟨H', L⟩ ∧ FoldOne H' ab (l.getD 0 ac0) ∧ H.length ≤ H'.length ∧ ∀ j, j < H.length → j ≠ 1 → H'[j]? = H[j]? := by
  have hm := h.m
  rcases h.a with ⟨rfl, rfl⟩ | ⟨ab, a, h2, rfl, rfl, ha⟩
  · have hl1 := look_lt hm
    have hm2 : ∀ R, Zz.look (H ++ R) 1 0 = some [.snil, .snil] := fun R => by rw [look_left hl1]; exact hm
    have hap : ∀ (call : AV → List AV → Mem → Option (AV × Mem)) (T : List AV) (l c : Opd), l.ev T = .snil → c.ev T = .sref H.length 0 0 6 1 (some 1) → evOp call T ⟨H ++ [some ⟨0, ac0.cells⟩], L⟩ (.append 6 48 l c) = some (.sref (H.length + 1) 0 0 6 1 none, ⟨H ++ [some ⟨0, ac0.cells⟩, some ⟨0, ac0.cells⟩], L⟩) := fun call T l c h1 h2 => by
      have e1 : Zz.look (H ++ [some ⟨0, ac0.cells⟩]) H.length 0 = some ac0.cells := lk0 rfl
      have e2 : Zz.cut ac0.cells 0 6 = some ac0.cells := rfl
      simp only [ev_append, h1, h2, appendAV, Zz.scells, if_true, e1, Option.bind_eq_bind, Option.bind_some, Nat.one_mul, e2, slen, newBlk, List.append_assoc, List.length_append, List.length_singleton]
      rw [if_neg (by omega), if_pos (by omega)]
      rfl
    refine WF.fnE rfl (fn_of Tryd.func41 cir41) (by show 2 ≤ 29; decide) ?_
    unfold ir41; dsimp only [k0, kI, mV, oO, oG]
    simp only [padTo, List.replicate, List.nil_append, List.append_nil, List.cons_append]
    repeat' (first | (refine WO.opE (by intro; simp (disch := omega) only [go_sem, zeros, List.length_append, ov_one0, ov_one1, ov_one2, ov_one3, ov_all2, ov_all3, ov_all4, ov_all5, ov_all6, over7, cut7, cut4b, cut4c, fillP, Option.bind_eq_bind, Nat.reduceAdd, Nat.reduceMul, Nat.reduceSub, Nat.reduceLeDiff, Nat.reduceEqDiff, Int.reduceNeg, Int.reduceAdd, Int.reduceToNat, reduceIte, reduceCtorEq, hm]; rfl) (by simp only [pt8, pt0, pt1, pt2, pt3, pt4, pt5, pt6, pt7]; rfl) ?_) | (refine WC.seq ?_) | (refine WC.region ?_) | (refine WO.nil ?_) | (refine WC.block ?_))
    refine WC.loop ?_
    repeat' (first | (refine WO.opE (by intro; simp (disch := omega) only [go_sem, zeros, List.length_append, ov_one0, ov_one1, ov_one2, ov_one3, ov_all2, ov_all3, ov_all4, ov_all5, ov_all6, over7, cut7, cut4b, cut4c, fillP, Option.bind_eq_bind, Nat.reduceAdd, Nat.reduceMul, Nat.reduceSub, Nat.reduceLeDiff, Nat.reduceEqDiff, Int.reduceNeg, Int.reduceAdd, Int.reduceToNat, reduceIte, reduceCtorEq, hm, hm2, lk0, st0, setBlk, set_left]; rfl) (by simp only [pt8, pt0, pt1, pt2, pt3, pt4, pt5, pt6, pt7]; rfl) ?_) | (refine WO.opN (by intro; simp (disch := omega) only [go_sem, zeros, List.length_append, ov_one0, ov_one1, ov_one2, ov_one3, ov_all2, ov_all3, ov_all4, ov_all5, ov_all6, over7, cut7, cut4b, cut4c, fillP, Option.bind_eq_bind, Nat.reduceAdd, Nat.reduceMul, Nat.reduceSub, Nat.reduceLeDiff, Nat.reduceEqDiff, Int.reduceNeg, Int.reduceAdd, Int.reduceToNat, reduceIte, reduceCtorEq, hm, hm2, lk0, st0, setBlk, set_left]; rfl) ?_) | (refine WO.opE (by intro; exact ev_lenS (by simp only [go_sem]; first | rfl | assumption)) (by simp only [pt8, pt0, pt1, pt2, pt3, pt4, pt5, pt6, pt7]; rfl) ?_) | (refine WO.opE (by intro; exact hap _ _ _ _ rfl rfl) (by simp only [pt8, pt0, pt1, pt2, pt3, pt4, pt5, pt6, pt7]; rfl) ?_) | (refine WC.seq ?_) | (refine WC.region ?_) | (refine WO.nil ?_) | (simp only [fl1, fl2, fl3, fl4, fl5, fl6, fl7, fl8, fl9, fl10, Nat.reduceBEq]) | (refine WC.yes rfl ?_) | (refine WC.skip ?_) | (refine WC.block ?_))
    refine WC.loop ?_
    have hl2 : (H.set 1 (some ⟨0, [.sref (H.length + 1) 0 0 6 1 none, .snil]⟩)).length = H.length := List.length_set
    have hm3 : Zz.look (H.set 1 (some ⟨0, [.sref (H.length + 1) 0 0 6 1 none, .snil]⟩)) 1 0 = some [.sref (H.length + 1) 0 0 6 1 none, .snil] := look_set hl1
    have hz3 : Zz.look (H.set 1 (some ⟨0, [.sref (H.length + 1) 0 0 6 1 none, .snil]⟩)) 0 0 = some [.snil, .snil] := by rw [look_of_get (List.getElem?_set_ne (by decide))]; exact h.z
    have hj3 : ∀ j, j ≠ 1 → (H.set 1 (some ⟨0, [.sref (H.length + 1) 0 0 6 1 none, .snil]⟩))[j]? = H[j]? := fun j hj => List.getElem?_set_ne (Ne.symm hj)
    generalize H.set 1 (some ⟨0, [.sref (H.length + 1) 0 0 6 1 none, .snil]⟩) = H2 at *
    have hm4 : ∀ R, Zz.look (H2 ++ R) 1 0 = some [.sref (H.length + 1) 0 0 6 1 none, .snil] := fun R => by rw [look_left (by omega)]; exact hm3
    repeat' (first | (refine WO.opE (by intro; simp (disch := omega) only [go_sem, zeros, List.length_append, ov_one0, ov_one1, ov_one2, ov_one3, ov_all2, ov_all3, ov_all4, ov_all5, ov_all6, over7, cut7, cut4b, cut4c, fillP, Option.bind_eq_bind, Nat.reduceAdd, Nat.reduceMul, Nat.reduceSub, Nat.reduceLeDiff, Nat.reduceEqDiff, Int.reduceNeg, Int.reduceAdd, Int.reduceToNat, reduceIte, reduceCtorEq, hm4, lk0, st0, setBlk, set_left, ia_sref, indexAddrAV, idx]; rfl) (by simp only [pt8, pt0, pt1, pt2, pt3, pt4, pt5, pt6, pt7]; rfl) ?_) | (refine WO.opE (by intro; exact ev_lenS (by simp only [go_sem]; first | rfl | assumption)) (by simp only [pt8, pt0, pt1, pt2, pt3, pt4, pt5, pt6, pt7]; rfl) ?_) | (refine WC.seq ?_) | (refine WC.region ?_) | (refine WO.nil ?_) | (simp only [fl1, fl2, fl3, fl4, fl5, fl6, fl7, fl8, fl9, fl10, Nat.reduceBEq]) | (refine WC.no rfl ?_) | (refine WC.exit ?_) | (refine WC.ret ?_))
    refine ⟨_, rfl, H.length + 1, _, rfl, rfl, ⟨by omega, by rw [look_left (by omega)]; exact hz3, hm4 _, lk1 hl2⟩, by simp only [List.length_append]; omega, fun j h1 h2 => ?_⟩
    rw [List.getElem?_append_left (by omega)]
    exact hj3 j h2
  · have hf : FoldOne H ab a := ⟨h2, h.z, hm, ha⟩
    refine WF.fnE rfl (fn_of Tryd.func41 cir41) (by show 2 ≤ 29; decide) ?_
    unfold ir41; dsimp only [k0, kI, mV, oO, oG]
    simp only [padTo, List.replicate, List.nil_append, List.append_nil, List.cons_append]
    repeat' (first | (refine WO.opE (by intro; simp (disch := omega) only [go_sem, zeros, List.length_append, ov_one0, ov_one1, ov_one2, ov_one3, ov_all2, ov_all3, ov_all4, ov_all5, ov_all6, over7, cut7, cut4b, cut4c, fillP, Option.bind_eq_bind, Nat.reduceAdd, Nat.reduceMul, Nat.reduceSub, Nat.reduceLeDiff, Nat.reduceEqDiff, Int.reduceNeg, Int.reduceAdd, Int.reduceToNat, reduceIte, reduceCtorEq, hm]; rfl) (by simp only [pt8, pt0, pt1, pt2, pt3, pt4, pt5, pt6, pt7]; rfl) ?_) | (refine WC.seq ?_) | (refine WC.region ?_) | (refine WO.nil ?_) | (refine WC.block ?_))
    refine WC.loop ?_
    repeat' (first | (refine WO.opE (by intro; simp (disch := omega) only [go_sem, zeros, List.length_append, ov_one0, ov_one1, ov_one2, ov_one3, ov_all2, ov_all3, ov_all4, ov_all5, ov_all6, over7, cut7, cut4b, cut4c, fillP, Option.bind_eq_bind, Nat.reduceAdd, Nat.reduceMul, Nat.reduceSub, Nat.reduceLeDiff, Nat.reduceEqDiff, Int.reduceNeg, Int.reduceAdd, Int.reduceToNat, reduceIte, reduceCtorEq, hm, lk0, st0, setBlk, ia_sref, indexAddrAV, idx]; rfl) (by simp only [pt8, pt0, pt1, pt2, pt3, pt4, pt5, pt6, pt7]; rfl) ?_) | (refine WO.opE (by intro; exact ev_lenS (by simp only [go_sem]; first | rfl | assumption)) (by simp only [pt8, pt0, pt1, pt2, pt3, pt4, pt5, pt6, pt7]; rfl) ?_) | (refine WC.seq ?_) | (refine WC.region ?_) | (refine WO.nil ?_) | (simp only [fl1, fl2, fl3, fl4, fl5, fl6, fl7, fl8, fl9, fl10, Nat.reduceBEq]) | (refine WC.no rfl ?_) | (refine WC.exit ?_) | (refine WC.ret ?_))
    exact ⟨_, rfl, ab, _, rfl, rfl, hf, Nat.le_refl _, fun j _ _ => rfl⟩
theorem FoldOne.set {H R : Hp} {ab : Nat} {a : Ac} (h : FoldOne H ab a) (a' : Ac) : FoldAt (H.set ab (some ⟨0, a'.cells⟩) ++ R) [a'] (.sref ab 0 0 6 1 none) := by
  obtain ⟨h1, h2, h3, h4⟩ := h
  have l0 := look_lt h2
  have l1 := look_lt h3
  have l2 := look_lt h4
  have hs : (H.set ab (some ⟨0, a'.cells⟩)).length = H.length := List.length_set
  have hk : ∀ j, ab ≠ j → (H.set ab (some ⟨0, a'.cells⟩))[j]? = H[j]? := fun j hj => List.getElem?_set_ne hj
  refine ⟨?_, ?_, .inr ⟨ab, a', h1, rfl, rfl, ?_⟩⟩
  · rw [look_left (by omega), look_of_get (hk _ (by omega))]; exact h2
  · rw [look_left (by omega), look_of_get (hk _ (by omega))]; exact h3
  · rw [look_left (by omega)]; exact look_set l2
theorem f40 {H : Hp} {L : List (Option ALoop)} {l : List Ac} {za : AV} {b : Int} {v : Tk} (h : FoldAt H l za) : WF E24 (.func 40 [] []) [.pref 1 0 0, .agg [.int .i64 1, .int .i64 1, .int .i64 b, .int .i64 v.s, .int .i64 v.c, .int .i64 v.n, .int .i64 v.d]] ⟨H, L⟩ fun y m' => y = .int .i64 (prep (l.getD 0 ac0) 0 b).2.2 ∧ m'.loops = L ∧ ∃ za', FoldAt m'.heap [(prep (l.getD 0 ac0) 0 b).1] za' := by
  have hl1 := look_lt h.m
  have hz1 := look_lt h.z
  have h2 : FoldAt (H ++ [some ⟨0, [.int .i64 1, .int .i64 1, .int .i64 b, .int .i64 v.s, .int .i64 v.c, .int .i64 v.n, .int .i64 v.d]⟩]) l za := ⟨by rw [look_left hz1]; exact h.z, by rw [look_left hl1]; exact h.m, by
    rcases h.a with ⟨h1, h2⟩ | ⟨ab, a, h1, h2, h3, h4⟩
    · exact .inl ⟨h1, h2⟩
    · exact .inr ⟨ab, a, h1, h2, h3, by rw [look_left (look_lt h4)]; exact h4⟩⟩
  refine WF.fnE rfl (fn_of Tryd.func40 cir40) (by show 2 ≤ 27; decide) ?_
  unfold ir40; dsimp only [k0, kI, mV, oO, oG]
  simp only [padTo, List.replicate, List.nil_append, List.append_nil, List.cons_append]
  repeat' (first | (refine WO.opE (by intro; simp (disch := omega) only [go_sem, zeros, List.length_append, ov_one0, ov_one1, ov_one2, ov_one3, ov_all2, ov_all3, ov_all4, ov_all5, ov_all6, over7, cut7, cut4b, cut4c, fillP, Option.bind_eq_bind, Nat.reduceAdd, Nat.reduceMul, Nat.reduceSub, Nat.reduceLeDiff, Nat.reduceEqDiff, Int.reduceNeg, Int.reduceAdd, Int.reduceToNat, reduceIte, reduceCtorEq, lk0]; rfl) (by simp only [pt8, pt0, pt1, pt2, pt3, pt4, pt5, pt6, pt7]; rfl) ?_) | (refine WC.seq ?_) | (refine WC.region ?_) | (refine WO.nil ?_) | (simp only [fl1, fl2, fl3, fl4, fl5, fl6, fl7, fl8, fl9, fl10, Nat.reduceBEq]))
  refine WO.call rfl rfl ((f41 h2).mono ?_)
  rintro y _ ⟨ab, H2, rfl, rfl, ⟨o1, o2, o3, o4⟩, hl, hj⟩
  simp only [pt8, pt0, pt1, pt2, pt3, pt4, pt5, pt6, pt7]
  simp only [List.length_append, List.length_singleton] at hl hj
  generalize l.getD 0 ac0 = a at *
  have hb : Zz.look H2 H.length 0 = some [.int .i64 1, .int .i64 1, .int .i64 b, .int .i64 v.s, .int .i64 v.c, .int .i64 v.n, .int .i64 v.d] := by
    rw [look_of_get (hj _ (by omega) (by omega))]
    exact lk0 rfl
  have hb2 : ∀ R, Zz.look (H2 ++ R) H.length 0 = some [.int .i64 1, .int .i64 1, .int .i64 b, .int .i64 v.s, .int .i64 v.c, .int .i64 v.n, .int .i64 v.d] := fun R => by rw [look_left (by omega)]; exact hb
  have o4' : Zz.look H2 ab 0 = some [.int .i64 a.p, .int .i64 a.w, .int .i64 a.v.s, .int .i64 a.v.c, .int .i64 a.v.n, .int .i64 a.v.d] := o4
  have ho2 : ∀ R, Zz.look (H2 ++ R) ab 0 = some [.int .i64 a.p, .int .i64 a.w, .int .i64 a.v.s, .int .i64 a.v.c, .int .i64 a.v.n, .int .i64 a.v.d] := fun R => by rw [look_left (look_lt o4)]; exact o4
  have habl := look_lt o4
  repeat' (first | (refine WO.opE (by intro; simp (disch := omega) only [go_sem, zeros, List.length_append, ov_one0, ov_one1, ov_one2, ov_one3, ov_all2, ov_all3, ov_all4, ov_all5, ov_all6, over7, cut7, cut4b, cut4c, fillP, Option.bind_eq_bind, Nat.reduceAdd, Nat.reduceMul, Nat.reduceSub, Nat.reduceLeDiff, Nat.reduceEqDiff, Int.reduceNeg, Int.reduceAdd, Int.reduceToNat, reduceIte, reduceCtorEq, hb, hb2, o4', ho2, lk0, lk1, st0, st1, setBlk, set_left, List.append_assoc]; rfl) (by simp only [pt8, pt0, pt1, pt2, pt3, pt4, pt5, pt6, pt7]; rfl) ?_) | (refine WO.opN (by intro; simp (disch := omega) only [go_sem, zeros, List.length_append, ov_one0, ov_one1, ov_one2, ov_one3, ov_all2, ov_all3, ov_all4, ov_all5, ov_all6, over7, cut7, cut4b, cut4c, fillP, Option.bind_eq_bind, Nat.reduceAdd, Nat.reduceMul, Nat.reduceSub, Nat.reduceLeDiff, Nat.reduceEqDiff, Int.reduceNeg, Int.reduceAdd, Int.reduceToNat, reduceIte, reduceCtorEq, hb, hb2, o4', ho2, lk0, lk1, st0, st1, setBlk, set_left, List.append_assoc]; rfl) ?_) | (refine WT.spec rfl rfl (fun V => s34) (by simp only [pt8, pt0, pt1, pt2, pt3, pt4, pt5, pt6, pt7]; rfl) ?_) | (refine WC.seq ?_) | (refine WC.region ?_) | (refine WO.nil ?_) | (simp only [fl1, fl2, fl3, fl4, fl5, fl6, fl7, fl8, fl9, fl10, Nat.reduceBEq]) | (refine WC.drawT ?_) | (refine WT.nil ?_) | (refine WT.free rfl (by intro; simp (disch := omega) only [go_sem, zeros, List.length_append, ov_one0, ov_one1, ov_one2, ov_one3, ov_all2, ov_all3, ov_all4, ov_all5, ov_all6, over7, cut7, cut4b, cut4c, fillP, Option.bind_eq_bind, Nat.reduceAdd, Nat.reduceMul, Nat.reduceSub, Nat.reduceLeDiff, Nat.reduceEqDiff, Int.reduceNeg, Int.reduceAdd, Int.reduceToNat, reduceIte, reduceCtorEq, hb, hb2, o4', ho2, lk0, lk1, st0, st1, setBlk, set_left, List.append_assoc]; rfl) rfl (by simp only [pt8, pt0, pt1, pt2, pt3, pt4, pt5, pt6, pt7]; rfl) ?_) | (refine WT.big rfl rfl (by intro; simp (disch := omega) only [go_sem, zeros, List.length_append, ov_one0, ov_one1, ov_one2, ov_one3, ov_all2, ov_all3, ov_all4, ov_all5, ov_all6, over7, cut7, cut4b, cut4c, fillP, Option.bind_eq_bind, Nat.reduceAdd, Nat.reduceMul, Nat.reduceSub, Nat.reduceLeDiff, Nat.reduceEqDiff, Int.reduceNeg, Int.reduceAdd, Int.reduceToNat, reduceIte, reduceCtorEq, hb, hb2, o4', ho2, lk0, lk1, st0, st1, setBlk, set_left, List.append_assoc]; rfl) (by simp (disch := omega) only [go_sem, zeros, List.length_append, ov_one0, ov_one1, ov_one2, ov_one3, ov_all2, ov_all3, ov_all4, ov_all5, ov_all6, over7, cut7, cut4b, cut4c, fillP, Option.bind_eq_bind, Nat.reduceAdd, Nat.reduceMul, Nat.reduceSub, Nat.reduceLeDiff, Nat.reduceEqDiff, Int.reduceNeg, Int.reduceAdd, Int.reduceToNat, reduceIte, reduceCtorEq, hb, hb2, o4', ho2, lk0, lk1, st0, st1, setBlk, set_left, List.append_assoc, touch]; rfl) (by first | exact .inl rfl | exact .inr (apart_nil _) | exact .inr trivial | (right; apply apart_mk; simp only [apartL, List.nil_append, List.cons_append, List.getElem?_cons_succ, List.getElem?_cons_zero, Tch.free, and_true, true_and]; first | done | omega)) (by simp only [pt8, pt0, pt1, pt2, pt3, pt4, pt5, pt6, pt7]; rfl) ?_) | (refine WT.bigN rfl rfl (by intro; simp (disch := omega) only [go_sem, zeros, List.length_append, ov_one0, ov_one1, ov_one2, ov_one3, ov_all2, ov_all3, ov_all4, ov_all5, ov_all6, over7, cut7, cut4b, cut4c, fillP, Option.bind_eq_bind, Nat.reduceAdd, Nat.reduceMul, Nat.reduceSub, Nat.reduceLeDiff, Nat.reduceEqDiff, Int.reduceNeg, Int.reduceAdd, Int.reduceToNat, reduceIte, reduceCtorEq, hb, hb2, o4', ho2, lk0, lk1, st0, st1, setBlk, set_left, List.append_assoc]; rfl) (by simp (disch := omega) only [go_sem, zeros, List.length_append, ov_one0, ov_one1, ov_one2, ov_one3, ov_all2, ov_all3, ov_all4, ov_all5, ov_all6, over7, cut7, cut4b, cut4c, fillP, Option.bind_eq_bind, Nat.reduceAdd, Nat.reduceMul, Nat.reduceSub, Nat.reduceLeDiff, Nat.reduceEqDiff, Int.reduceNeg, Int.reduceAdd, Int.reduceToNat, reduceIte, reduceCtorEq, hb, hb2, o4', ho2, lk0, lk1, st0, st1, setBlk, set_left, List.append_assoc, touch]; rfl) (by first | exact .inl rfl | exact .inr (apart_nil _) | exact .inr trivial | (right; apply apart_mk; simp only [apartL, List.nil_append, List.cons_append, List.getElem?_cons_succ, List.getElem?_cons_zero, Tch.free, and_true, true_and]; first | done | omega)) ?_) | (refine WC.ret ?_))
  exact ⟨_, rfl, rfl, rfl, _, FoldOne.set ⟨o1, o2, o3, o4⟩ (prep a 0 b).1⟩
theorem f42 {H : Hp} {L : List (Option ALoop)} {l : List Ac} {za : AV} {b : Int} {v : Tk} (h : FoldAt H l za) : WF E24 (.func 42 [] []) [.pref 1 0 0, .agg [.int .i64 2, .int .i64 1, .int .i64 b, .int .i64 v.s, .int .i64 v.c, .int .i64 v.n, .int .i64 v.d]] ⟨H, L⟩ fun y m' => y = .int .i64 (acc (l.getD 0 ac0) 0 b v).2.2 ∧ m'.loops = L ∧ ∃ za', FoldAt m'.heap [(acc (l.getD 0 ac0) 0 b v).1] za' := by
  have hl1 := look_lt h.m
  have hz1 := look_lt h.z
  have h2 : FoldAt (H ++ [some ⟨0, [.int .i64 2, .int .i64 1, .int .i64 b, .int .i64 v.s, .int .i64 v.c, .int .i64 v.n, .int .i64 v.d]⟩]) l za := ⟨by rw [look_left hz1]; exact h.z, by rw [look_left hl1]; exact h.m, by
    rcases h.a with ⟨h1, h2⟩ | ⟨ab, a, h1, h2, h3, h4⟩
    · exact .inl ⟨h1, h2⟩
    · exact .inr ⟨ab, a, h1, h2, h3, by rw [look_left (look_lt h4)]; exact h4⟩⟩
  refine WF.fnE rfl (fn_of Tryd.func42 cir42) (by show 2 ≤ 29; decide) ?_
  unfold ir42; dsimp only [k0, kI, mV, oO, oG]
  simp only [padTo, List.replicate, List.nil_append, List.append_nil, List.cons_append]
  repeat' (first | (refine WO.opE (by intro; simp (disch := omega) only [go_sem, zeros, List.length_append, ov_one0, ov_one1, ov_one2, ov_one3, ov_all2, ov_all3, ov_all4, ov_all5, ov_all6, over7, cut7, cut4b, cut4c, fillP, Option.bind_eq_bind, Nat.reduceAdd, Nat.reduceMul, Nat.reduceSub, Nat.reduceLeDiff, Nat.reduceEqDiff, Int.reduceNeg, Int.reduceAdd, Int.reduceToNat, reduceIte, reduceCtorEq, lk0]; rfl) (by simp only [pt8, pt0, pt1, pt2, pt3, pt4, pt5, pt6, pt7]; rfl) ?_) | (refine WC.seq ?_) | (refine WC.region ?_) | (refine WO.nil ?_) | (simp only [fl1, fl2, fl3, fl4, fl5, fl6, fl7, fl8, fl9, fl10, Nat.reduceBEq]))
  refine WO.call rfl rfl ((f41 h2).mono ?_)
  rintro y _ ⟨ab, H2, rfl, rfl, ⟨o1, o2, o3, o4⟩, hl, hj⟩
  simp only [pt8, pt0, pt1, pt2, pt3, pt4, pt5, pt6, pt7]
  simp only [List.length_append, List.length_singleton] at hl hj
  generalize l.getD 0 ac0 = a at *
  have hb : Zz.look H2 H.length 0 = some [.int .i64 2, .int .i64 1, .int .i64 b, .int .i64 v.s, .int .i64 v.c, .int .i64 v.n, .int .i64 v.d] := by
    rw [look_of_get (hj _ (by omega) (by omega))]
    exact lk0 rfl
  have hb2 : ∀ R, Zz.look (H2 ++ R) H.length 0 = some [.int .i64 2, .int .i64 1, .int .i64 b, .int .i64 v.s, .int .i64 v.c, .int .i64 v.n, .int .i64 v.d] := fun R => by rw [look_left (by omega)]; exact hb
  have o4' : Zz.look H2 ab 0 = some [.int .i64 a.p, .int .i64 a.w, .int .i64 a.v.s, .int .i64 a.v.c, .int .i64 a.v.n, .int .i64 a.v.d] := o4
  have ho2 : ∀ R, Zz.look (H2 ++ R) ab 0 = some [.int .i64 a.p, .int .i64 a.w, .int .i64 a.v.s, .int .i64 a.v.c, .int .i64 a.v.n, .int .i64 a.v.d] := fun R => by rw [look_left (look_lt o4)]; exact o4
  have habl := look_lt o4
  repeat' (first | (refine WO.opE (by intro; simp (disch := omega) only [go_sem, zeros, List.length_append, ov_one0, ov_one1, ov_one2, ov_one3, ov_all2, ov_all3, ov_all4, ov_all5, ov_all6, over7, cut7, cut4b, cut4c, fillP, Option.bind_eq_bind, Nat.reduceAdd, Nat.reduceMul, Nat.reduceSub, Nat.reduceLeDiff, Nat.reduceEqDiff, Int.reduceNeg, Int.reduceAdd, Int.reduceToNat, reduceIte, reduceCtorEq, hb, hb2, o4', ho2, lk0, lk1, st0, st1, setBlk, set_left, List.append_assoc]; rfl) (by simp only [pt8, pt0, pt1, pt2, pt3, pt4, pt5, pt6, pt7]; rfl) ?_) | (refine WO.opN (by intro; simp (disch := omega) only [go_sem, zeros, List.length_append, ov_one0, ov_one1, ov_one2, ov_one3, ov_all2, ov_all3, ov_all4, ov_all5, ov_all6, over7, cut7, cut4b, cut4c, fillP, Option.bind_eq_bind, Nat.reduceAdd, Nat.reduceMul, Nat.reduceSub, Nat.reduceLeDiff, Nat.reduceEqDiff, Int.reduceNeg, Int.reduceAdd, Int.reduceToNat, reduceIte, reduceCtorEq, hb, hb2, o4', ho2, lk0, lk1, st0, st1, setBlk, set_left, List.append_assoc]; rfl) ?_) | (refine WT.spec rfl rfl (fun V => s36) (by simp only [pt8, pt0, pt1, pt2, pt3, pt4, pt5, pt6, pt7]; rfl) ?_) | (refine WC.seq ?_) | (refine WC.region ?_) | (refine WO.nil ?_) | (simp only [fl1, fl2, fl3, fl4, fl5, fl6, fl7, fl8, fl9, fl10, Nat.reduceBEq]) | (refine WC.drawT ?_) | (refine WT.nil ?_) | (refine WT.free rfl (by intro; simp (disch := omega) only [go_sem, zeros, List.length_append, ov_one0, ov_one1, ov_one2, ov_one3, ov_all2, ov_all3, ov_all4, ov_all5, ov_all6, over7, cut7, cut4b, cut4c, fillP, Option.bind_eq_bind, Nat.reduceAdd, Nat.reduceMul, Nat.reduceSub, Nat.reduceLeDiff, Nat.reduceEqDiff, Int.reduceNeg, Int.reduceAdd, Int.reduceToNat, reduceIte, reduceCtorEq, hb, hb2, o4', ho2, lk0, lk1, st0, st1, setBlk, set_left, List.append_assoc]; rfl) rfl (by simp only [pt8, pt0, pt1, pt2, pt3, pt4, pt5, pt6, pt7]; rfl) ?_) | (refine WT.big rfl rfl (by intro; simp (disch := omega) only [go_sem, zeros, List.length_append, ov_one0, ov_one1, ov_one2, ov_one3, ov_all2, ov_all3, ov_all4, ov_all5, ov_all6, over7, cut7, cut4b, cut4c, fillP, Option.bind_eq_bind, Nat.reduceAdd, Nat.reduceMul, Nat.reduceSub, Nat.reduceLeDiff, Nat.reduceEqDiff, Int.reduceNeg, Int.reduceAdd, Int.reduceToNat, reduceIte, reduceCtorEq, hb, hb2, o4', ho2, lk0, lk1, st0, st1, setBlk, set_left, List.append_assoc]; rfl) (by simp (disch := omega) only [go_sem, zeros, List.length_append, ov_one0, ov_one1, ov_one2, ov_one3, ov_all2, ov_all3, ov_all4, ov_all5, ov_all6, over7, cut7, cut4b, cut4c, fillP, Option.bind_eq_bind, Nat.reduceAdd, Nat.reduceMul, Nat.reduceSub, Nat.reduceLeDiff, Nat.reduceEqDiff, Int.reduceNeg, Int.reduceAdd, Int.reduceToNat, reduceIte, reduceCtorEq, hb, hb2, o4', ho2, lk0, lk1, st0, st1, setBlk, set_left, List.append_assoc, touch]; rfl) (by first | exact .inl rfl | exact .inr (apart_nil _) | exact .inr trivial | (right; apply apart_mk; simp only [apartL, List.nil_append, List.cons_append, List.getElem?_cons_succ, List.getElem?_cons_zero, Tch.free, and_true, true_and]; first | done | omega)) (by simp only [pt8, pt0, pt1, pt2, pt3, pt4, pt5, pt6, pt7]; rfl) ?_) | (refine WT.bigN rfl rfl (by intro; simp (disch := omega) only [go_sem, zeros, List.length_append, ov_one0, ov_one1, ov_one2, ov_one3, ov_all2, ov_all3, ov_all4, ov_all5, ov_all6, over7, cut7, cut4b, cut4c, fillP, Option.bind_eq_bind, Nat.reduceAdd, Nat.reduceMul, Nat.reduceSub, Nat.reduceLeDiff, Nat.reduceEqDiff, Int.reduceNeg, Int.reduceAdd, Int.reduceToNat, reduceIte, reduceCtorEq, hb, hb2, o4', ho2, lk0, lk1, st0, st1, setBlk, set_left, List.append_assoc]; rfl) (by simp (disch := omega) only [go_sem, zeros, List.length_append, ov_one0, ov_one1, ov_one2, ov_one3, ov_all2, ov_all3, ov_all4, ov_all5, ov_all6, over7, cut7, cut4b, cut4c, fillP, Option.bind_eq_bind, Nat.reduceAdd, Nat.reduceMul, Nat.reduceSub, Nat.reduceLeDiff, Nat.reduceEqDiff, Int.reduceNeg, Int.reduceAdd, Int.reduceToNat, reduceIte, reduceCtorEq, hb, hb2, o4', ho2, lk0, lk1, st0, st1, setBlk, set_left, List.append_assoc, touch]; rfl) (by first | exact .inl rfl | exact .inr (apart_nil _) | exact .inr trivial | (right; apply apart_mk; simp only [apartL, List.nil_append, List.cons_append, List.getElem?_cons_succ, List.getElem?_cons_zero, Tch.free, and_true, true_and]; first | done | omega)) ?_) | (refine WC.ret ?_))
  exact ⟨_, rfl, rfl, rfl, _, FoldOne.set ⟨o1, o2, o3, o4⟩ (acc a 0 b v).1⟩
def memV (l : List Ac) : AV := .agg [slV (acF l) l.length, .snil]
theorem deeds_find {k : Int} (h : k = 1 ∨ k = 2) : mfind k deedsEs = some (.func (if k = 1 then 40 else 42) [] []) := by
  unfold deedsEs
  rcases h with rfl | rfl <;> simp [mfind]
theorem f17 {z : AV} {rs : List Rc} {lf : List Ac} (hz : RcL z rs) (hr : ∀ r ∈ rs, R1 r) (hn : rs.length ≤ 500) (hf : foldR [] rs = some lf) : WF E24 (.func 17 [] []) [z] ⟨[], []⟩ fun y m' => resV m'.heap y = some (.tuple [memV lf, .int .i64 0]) := by
  refine WF.fnE rfl (fn_of Tryd.func17 cir17) (by show 1 ≤ 36; decide) ?_
  unfold ir17; dsimp only [k0, kI, mV, oO, oG]
  simp only [padTo, List.replicate, List.nil_append, List.append_nil, List.cons_append]
  repeat' (first | (refine WO.yes rfl ?_) | (refine WO.opE (by intro; simp (disch := omega) only [go_sem, zeros, List.length_append, ov_one0, ov_one1, ov_one2, ov_one3, ov_all2, ov_all3, ov_all4, ov_all5, ov_all6, over7, cut7, cut4b, cut4c, fillP, Option.bind_eq_bind, Zz.look, Nat.reduceAdd, Nat.reduceMul, Nat.reduceSub, Nat.reduceLeDiff, Nat.reduceEqDiff, Int.reduceNeg, Int.reduceAdd, Int.reduceToNat, reduceIte, reduceCtorEq, setBlk, List.set_cons_zero, List.set_cons_succ]; rfl) (by simp only [pt8, pt0, pt1, pt2, pt3, pt4, pt5, pt6, pt7]; rfl) ?_) | (refine WO.opE (by intro; exact ev_lenS (by simp only [go_sem]; exact hz.len)) (by simp only [pt8, pt0, pt1, pt2, pt3, pt4, pt5, pt6, pt7]; rfl) ?_) | (refine WC.seq ?_) | (refine WC.region ?_) | (refine WO.nil ?_) | (simp only [fl1, fl2, fl3, fl4, fl5, fl6, fl7, fl8, fl9, fl10, Nat.reduceBEq]) | (refine WO.em2 rfl (by intro hp; simp only [hp, decide_true]; rfl) (by intro hp; simp only [hp, decide_false]; rfl) (fun hp => ?_) (fun hp => ?_) <;> try (exfalso; first | omega | contradiction)))
  refine WO.call rfl rfl ((f30 hz (fun r h => (hr r h).1) (by omega)).mono ?_)
  rintro y _ ⟨rfl, rfl⟩
  simp only [pt8, pt0, pt1, pt2, pt3, pt4, pt5, pt6, pt7]
  repeat' (first | (refine WO.opE (by intro; simp (disch := omega) only [go_sem, zeros, List.length_append, ov_one0, ov_one1, ov_one2, ov_one3, ov_all2, ov_all3, ov_all4, ov_all5, ov_all6, over7, cut7, cut4b, cut4c, fillP, Option.bind_eq_bind, Zz.look, Nat.reduceAdd, Nat.reduceMul, Nat.reduceSub, Nat.reduceLeDiff, Nat.reduceEqDiff, Int.reduceNeg, Int.reduceAdd, Int.reduceToNat, reduceIte, reduceCtorEq, setBlk, List.set_cons_zero, List.set_cons_succ]; rfl) (by simp only [pt8, pt0, pt1, pt2, pt3, pt4, pt5, pt6, pt7]; rfl) ?_) | (refine WC.seq ?_) | (refine WC.region ?_) | (refine WO.nil ?_) | (simp only [fl1, fl2, fl3, fl4, fl5, fl6, fl7, fl8, fl9, fl10, Nat.reduceBEq]) | (refine WC.no rfl ?_) | (refine WC.skip ?_))
  refine WO.call rfl rfl (f32.mono ?_)
  rintro y _ ⟨rfl, rfl⟩
  simp only [pt8, pt0, pt1, pt2, pt3, pt4, pt5, pt6, pt7]
  repeat' (first | (refine WO.opE (by intro; simp (disch := omega) only [go_sem, zeros, List.length_append, ov_one0, ov_one1, ov_one2, ov_one3, ov_all2, ov_all3, ov_all4, ov_all5, ov_all6, over7, cut7, cut4b, cut4c, fillP, Option.bind_eq_bind, Zz.look, Nat.reduceAdd, Nat.reduceMul, Nat.reduceSub, Nat.reduceLeDiff, Nat.reduceEqDiff, Int.reduceNeg, Int.reduceAdd, Int.reduceToNat, reduceIte, reduceCtorEq, setBlk, List.set_cons_zero, List.set_cons_succ]; rfl) (by simp only [pt8, pt0, pt1, pt2, pt3, pt4, pt5, pt6, pt7]; rfl) ?_) | (refine WO.opE (by intro; exact ev_lenS (by simp only [go_sem]; exact hz.len)) (by simp only [pt8, pt0, pt1, pt2, pt3, pt4, pt5, pt6, pt7]; rfl) ?_) | (refine WC.seq ?_) | (refine WC.region ?_) | (refine WO.nil ?_) | (simp only [fl1, fl2, fl3, fl4, fl5, fl6, fl7, fl8, fl9, fl10, Nat.reduceBEq]) | (refine WC.block ?_))
  refine WC.loopI (fun m s => ∃ T i H l za, s = ⟨T, H, [some (mapObj deedsEs)]⟩ ∧ T.length = 36 ∧ gt T 0 = z ∧ gt T 2 = .pref 0 0 0 ∧ gt T 3 = .int .i64 0 ∧ gt T 4 = .pref 1 0 0 ∧ gt T 5 = .mref 0 ∧ gt T 18 = z ∧ gt T 19 = .int .i64 (rs.length : Nat) ∧ gt T 20 = .int .i64 (i : Nat) ∧ m + i = rs.length ∧ FoldAt H l za ∧ foldR l (rs.drop i) = some lf) ?_ rs.length _ ⟨_, 0, _, [], .snil, rfl, rfl, rfl, rfl, rfl, rfl, rfl, rfl, rfl, rfl, by omega, ⟨rfl, rfl, .inl ⟨rfl, rfl⟩⟩, hf⟩
  rintro m _ ⟨T, i, H, l, za, rfl, hT, g0, g2, g3, g4, g5, g18, g19, g20, hml, hfa, hfl⟩
  obtain ⟨f, rfl⟩ := ex36 hT
  clear hT
  replace g0 : f 0 = z := g0
  replace g2 : f 2 = .pref 0 0 0 := g2
  replace g3 : f 3 = .int .i64 0 := g3
  replace g4 : f 4 = .pref 1 0 0 := g4
  replace g5 : f 5 = .mref 0 := g5
  replace g18 : f 18 = z := g18
  replace g19 : f 19 = .int .i64 (rs.length : Nat) := g19
  replace g20 : f 20 = .int .i64 (i : Nat) := g20
  simp only [g0, g2, g3, g4, g5, g18, g19, g20]
  by_cases hi : i < rs.length
  · have hat := hz.at hi
    have hr1 : R1 (rnth rs i) := by
      have e : rnth rs i = rs[i] := by simp [rnth, hi]
      rw [e]
      exact hr _ (List.getElem_mem hi)
    have hdr : foldR l (rs.drop i) = (foldS l (rnth rs i)).bind fun l' => foldR l' (rs.drop (i + 1)) := by
      have e : rnth rs i = rs[i] := by simp [rnth, hi]
      rw [List.drop_eq_getElem_cons hi, e]
      rfl
    rw [hdr] at hfl
    have hdf := deeds_find hr1.2.2
    have hfa2 : ∀ R, FoldAt (H ++ R) l za := fun R => ⟨by rw [look_left (look_lt hfa.z)]; exact hfa.z, by rw [look_left (look_lt hfa.m)]; exact hfa.m, by
      rcases hfa.a with ⟨h1, h2⟩ | ⟨ab, a, h1, h2, h3, h4⟩
      · exact .inl ⟨h1, h2⟩
      · exact .inr ⟨ab, a, h1, h2, h3, by rw [look_left (look_lt h4)]; exact h4⟩⟩
    obtain ⟨hok, hs, hk⟩ := hr1
    generalize rnth rs i = r at *
    obtain ⟨k, s, b, v⟩ := r
    simp only at hs hk hdf hat
    subst hs
    rcases hk with hk | hk
    · subst hk
      have hdf2 : mfind 1 deedsEs = some (.func 40 [] []) := hdf
      repeat' (first | (refine WO.opE (by intro; simp (disch := omega) only [go_sem, zeros, List.length_append, ov_one0, ov_one1, ov_one2, ov_one3, ov_all2, ov_all3, ov_all4, ov_all5, ov_all6, over7, cut7, cut4b, cut4c, fillP, Option.bind_eq_bind, Nat.reduceAdd, Nat.reduceMul, Nat.reduceSub, Nat.reduceLeDiff, Nat.reduceEqDiff, Int.reduceNeg, Int.reduceAdd, Int.reduceToNat, reduceIte, reduceCtorEq, hat, lk0, st0, setBlk]; rfl) (by simp only [pt8, pt0, pt1, pt2, pt3, pt4, pt5, pt6, pt7]; rfl) ?_) | (refine WO.opN (by intro; simp (disch := omega) only [go_sem, zeros, List.length_append, ov_one0, ov_one1, ov_one2, ov_one3, ov_all2, ov_all3, ov_all4, ov_all5, ov_all6, over7, cut7, cut4b, cut4c, fillP, Option.bind_eq_bind, Nat.reduceAdd, Nat.reduceMul, Nat.reduceSub, Nat.reduceLeDiff, Nat.reduceEqDiff, Int.reduceNeg, Int.reduceAdd, Int.reduceToNat, reduceIte, reduceCtorEq, hat, lk0, st0, setBlk]; rfl) ?_) | (refine WO.opE (by intro; refine Eq.trans (ev_mapGet rfl rfl (rfl) (rfl)) ?_; simp only [hdf2, if_true, if_false, Bool.false_eq_true, Option.getD, Option.isSome]; rfl) (by simp only [pt8, pt0, pt1, pt2, pt3, pt4, pt5, pt6, pt7]; rfl) ?_) | (refine WC.seq ?_) | (refine WC.region ?_) | (refine WO.nil ?_) | (simp only [fl1, fl2, fl3, fl4, fl5, fl6, fl7, fl8, fl9, fl10, Nat.reduceBEq]) | (refine WC.skip ?_) | (refine WC.block ?_) | (refine WC.em2 rfl (fun hp => ?_) (fun hp => ?_) <;> try (exfalso; first | omega | contradiction)))
      refine WO.call rfl rfl ((f40 (hfa2 _)).mono ?_)
      rintro y ⟨H', L'⟩ ⟨rfl, rfl, za', hfa'⟩
      simp only [pt8, pt0, pt1, pt2, pt3, pt4, pt5, pt6, pt7]
      unfold foldS at hfl
      simp only [if_true] at hfl
      by_cases he : (prep (l.getD 0 ac0) 0 b).2.2 = 0
      · rw [if_pos he] at hfl
        repeat' (first | (refine WO.opE (by intro; simp (disch := omega) only [go_sem, zeros, List.length_append, ov_one0, ov_one1, ov_one2, ov_one3, ov_all2, ov_all3, ov_all4, ov_all5, ov_all6, over7, cut7, cut4b, cut4c, fillP, Option.bind_eq_bind, Nat.reduceAdd, Nat.reduceMul, Nat.reduceSub, Nat.reduceLeDiff, Nat.reduceEqDiff, Int.reduceNeg, Int.reduceAdd, Int.reduceToNat, reduceIte, reduceCtorEq, he]; rfl) (by simp only [pt8, pt0, pt1, pt2, pt3, pt4, pt5, pt6, pt7]; rfl) ?_) | (refine WC.seq ?_) | (refine WC.region ?_) | (refine WO.nil ?_) | (simp only [fl1, fl2, fl3, fl4, fl5, fl6, fl7, fl8, fl9, fl10, Nat.reduceBEq]) | (refine WC.no rfl ?_) | (refine WC.skip ?_))
        simp only [Option.bind_some] at hfl
        exact ⟨m - 1, by omega, _, i + 1, H', _, za', rfl, rfl, rfl, rfl, rfl, rfl, rfl, rfl, rfl, rfl, by omega, hfa', hfl⟩
      · rw [if_neg he] at hfl
        cases hfl
    · subst hk
      have hdf2 : mfind 2 deedsEs = some (.func 42 [] []) := hdf
      repeat' (first | (refine WO.opE (by intro; simp (disch := omega) only [go_sem, zeros, List.length_append, ov_one0, ov_one1, ov_one2, ov_one3, ov_all2, ov_all3, ov_all4, ov_all5, ov_all6, over7, cut7, cut4b, cut4c, fillP, Option.bind_eq_bind, Nat.reduceAdd, Nat.reduceMul, Nat.reduceSub, Nat.reduceLeDiff, Nat.reduceEqDiff, Int.reduceNeg, Int.reduceAdd, Int.reduceToNat, reduceIte, reduceCtorEq, hat, lk0, st0, setBlk]; rfl) (by simp only [pt8, pt0, pt1, pt2, pt3, pt4, pt5, pt6, pt7]; rfl) ?_) | (refine WO.opN (by intro; simp (disch := omega) only [go_sem, zeros, List.length_append, ov_one0, ov_one1, ov_one2, ov_one3, ov_all2, ov_all3, ov_all4, ov_all5, ov_all6, over7, cut7, cut4b, cut4c, fillP, Option.bind_eq_bind, Nat.reduceAdd, Nat.reduceMul, Nat.reduceSub, Nat.reduceLeDiff, Nat.reduceEqDiff, Int.reduceNeg, Int.reduceAdd, Int.reduceToNat, reduceIte, reduceCtorEq, hat, lk0, st0, setBlk]; rfl) ?_) | (refine WO.opE (by intro; refine Eq.trans (ev_mapGet rfl rfl (rfl) (rfl)) ?_; simp only [hdf2, if_true, if_false, Bool.false_eq_true, Option.getD, Option.isSome]; rfl) (by simp only [pt8, pt0, pt1, pt2, pt3, pt4, pt5, pt6, pt7]; rfl) ?_) | (refine WC.seq ?_) | (refine WC.region ?_) | (refine WO.nil ?_) | (simp only [fl1, fl2, fl3, fl4, fl5, fl6, fl7, fl8, fl9, fl10, Nat.reduceBEq]) | (refine WC.skip ?_) | (refine WC.block ?_) | (refine WC.em2 rfl (fun hp => ?_) (fun hp => ?_) <;> try (exfalso; first | omega | contradiction)))
      refine WO.call rfl rfl ((f42 (hfa2 _)).mono ?_)
      rintro y ⟨H', L'⟩ ⟨rfl, rfl, za', hfa'⟩
      simp only [pt8, pt0, pt1, pt2, pt3, pt4, pt5, pt6, pt7]
      unfold foldS at hfl
      simp only [show ¬ (2 : Int) = 1 by decide, if_false] at hfl
      by_cases he : (acc (l.getD 0 ac0) 0 b v).2.2 = 0
      · rw [if_pos he] at hfl
        repeat' (first | (refine WO.opE (by intro; simp (disch := omega) only [go_sem, zeros, List.length_append, ov_one0, ov_one1, ov_one2, ov_one3, ov_all2, ov_all3, ov_all4, ov_all5, ov_all6, over7, cut7, cut4b, cut4c, fillP, Option.bind_eq_bind, Nat.reduceAdd, Nat.reduceMul, Nat.reduceSub, Nat.reduceLeDiff, Nat.reduceEqDiff, Int.reduceNeg, Int.reduceAdd, Int.reduceToNat, reduceIte, reduceCtorEq, he]; rfl) (by simp only [pt8, pt0, pt1, pt2, pt3, pt4, pt5, pt6, pt7]; rfl) ?_) | (refine WC.seq ?_) | (refine WC.region ?_) | (refine WO.nil ?_) | (simp only [fl1, fl2, fl3, fl4, fl5, fl6, fl7, fl8, fl9, fl10, Nat.reduceBEq]) | (refine WC.no rfl ?_) | (refine WC.skip ?_))
        simp only [Option.bind_some] at hfl
        exact ⟨m - 1, by omega, _, i + 1, H', _, za', rfl, rfl, rfl, rfl, rfl, rfl, rfl, rfl, rfl, rfl, by omega, hfa', hfl⟩
      · rw [if_neg he] at hfl
        cases hfl
  · have hie : i = rs.length := by omega
    subst hie
    rw [List.drop_length] at hfl
    obtain rfl : l = lf := by simpa [foldR] using hfl
    have hm := hfa.m
    have hzz := hfa.z
    have hls : ∀ c, Zz.look (H.set 0 (some ⟨0, c⟩)) 0 0 = some c := fun c => look_set (look_lt hzz)
    have hcz : za.cells = some [za] := by
      rcases hfa.a with ⟨rfl, _⟩ | ⟨ab, a, _, rfl, _, _⟩ <;> rfl
    unfold AV.cells at hcz
    have hra : ∀ c, resC (H.set 0 (some ⟨0, c⟩)) za = some (slV (acF l) l.length) := fun c => by
      rcases hfa.a with ⟨rfl, rfl⟩ | ⟨ab, a, h1, rfl, rfl, h4⟩
      · rfl
      · have h5 : Zz.look (H.set 0 (some ⟨0, c⟩)) ab 0 = some a.cells := by
          rw [look_of_get (List.getElem?_set_ne (by omega))]; exact h4
        have h6 : Zz.cut a.cells 0 (1 * 6) = some a.cells := rfl
        have h7 : a.cells.all flatAV = true := rfl
        simp only [resC, h5, h6, h7, if_true]
        have h8 : acF [a] = a.cells := by simp [acF]
        rw [h8]
        rfl
    repeat' (first | (refine WO.opE (by intro; simp (disch := omega) only [go_sem, zeros, List.length_append, ov_one0, ov_one1, ov_one2, ov_one3, ov_all2, ov_all3, ov_all4, ov_all5, ov_all6, over7, cut7, cut4b, cut4c, fillP, Option.bind_eq_bind, Nat.reduceAdd, Nat.reduceMul, Nat.reduceSub, Nat.reduceLeDiff, Nat.reduceEqDiff, Int.reduceNeg, Int.reduceAdd, Int.reduceToNat, reduceIte, reduceCtorEq, hm, hzz, hcz, setBlk]; rfl) (by simp only [pt8, pt0, pt1, pt2, pt3, pt4, pt5, pt6, pt7]; rfl) ?_) | (refine WO.opN (by intro; simp (disch := omega) only [go_sem, zeros, List.length_append, ov_one0, ov_one1, ov_one2, ov_one3, ov_all2, ov_all3, ov_all4, ov_all5, ov_all6, over7, cut7, cut4b, cut4c, fillP, Option.bind_eq_bind, Nat.reduceAdd, Nat.reduceMul, Nat.reduceSub, Nat.reduceLeDiff, Nat.reduceEqDiff, Int.reduceNeg, Int.reduceAdd, Int.reduceToNat, reduceIte, reduceCtorEq, hm, hzz, hcz, setBlk]; rfl) ?_) | (refine WC.seq ?_) | (refine WC.region ?_) | (refine WO.nil ?_) | (simp only [fl1, fl2, fl3, fl4, fl5, fl6, fl7, fl8, fl9, fl10, Nat.reduceBEq]) | (refine WC.exit ?_) | (refine WC.ret ?_) | (refine WC.em2 rfl (fun hp => ?_) (fun hp => ?_) <;> try (exfalso; first | omega | contradiction)))
    refine ⟨[.agg [za, .snil], .int .i64 0], ?_, ?_⟩
    · simp only [evRes, gt8, gt0, gt1, gt2, gt3, gt4, gt5, gt6, gt7, hls, Option.bind_some, loadCs]
      rfl
    · simp only [oneRes, St.mem, resV, resT, resA, resL, hra]
      rfl
theorem RcL.pureA {x : AV} {rs : List Rc} (h : RcL x rs) : Zz.pureA x = true := by
  obtain ⟨_, ⟨rfl, _⟩ | ⟨f, rfl⟩⟩ := h
  · rfl
  · exact rcF_flat rs
theorem s17 {z : AV} {rs : List Rc} {lf : List Ac} (hz : RcL z rs) (hr : ∀ r ∈ rs, R1 r) (hn : rs.length ≤ 500) (hf : foldR [] rs = some lf) {m : Mem} : borrowE E24 17 [z] m = some (.tuple [memV lf, .int .i64 0], m) :=
  borrowE_of (by rw [List.all_cons, hz.pureA]; rfl) (f17 hz hr hn hf)
noncomputable def E25 : Env := E24.put 17 (borrowE E24 17)
theorem E25_ok : EnvOk Tryd.prog E25 := Env.put_ok E24_ok (borrowE_ok E24_ok (callable Tryd.func17 (by kernel_rfl)))
end Go.Proofs.YtgchabldcnmccaaDoor

