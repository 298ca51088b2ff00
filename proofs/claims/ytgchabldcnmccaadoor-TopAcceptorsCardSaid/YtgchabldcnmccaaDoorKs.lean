import Derived.Test.YtgchabldcnmccaaDoorKr
set_option linter.unusedSimpArgs false
set_option linter.unusedVariables false

namespace Go.Proofs.YtgchabldcnmccaaDoor
open Go.Zz
set_option maxRecDepth 100000
set_option maxHeartbeats 8000000
def atail (l : List Ac) (i : Nat) : List AV := ((l.map Ac.cells).drop (i + 1)).flatten
theorem acs_at {l : List Ac} {k : Int} (h : 0 ≤ k ∧ k < l.length) : indexAddrAV 6 (.sval true l.length (acF l)) (.int .i64 k) = some (.pval (.int .i64 (l.getD k.toNat ac0).p :: .int .i64 (l.getD k.toNat ac0).w :: .int .i64 (l.getD k.toNat ac0).v.s :: .int .i64 (l.getD k.toNat ac0).v.c :: .int .i64 (l.getD k.toNat ac0).v.n :: .int .i64 (l.getD k.toNat ac0).v.d :: atail l k.toNat)) := by
  have hcs : ∀ c ∈ l.map Ac.cells, c.length = 6 := by
    intro c hc
    obtain ⟨p, _, rfl⟩ := List.mem_map.1 hc
    rfl
  have hsl : SL 6 (.sval true l.length (acF l)) (l.map Ac.cells) := ⟨hcs, .inr ⟨true, by rw [List.length_map]; rfl⟩⟩
  have hk : k.toNat < l.length := by omega
  have := SL.at hsl (i := k.toNat) (by simpa using hk)
  have e : ((k.toNat : Nat) : Int) = k := by omega
  rw [e] at this
  rw [this]
  have e2 : l.getD k.toNat ac0 = l[k.toNat] := by
    rw [List.getD_eq_getElem?_getD, List.getElem?_eq_getElem hk]
    rfl
  rw [e2]
  simp [Ac.cells, Tk.cells, atail]
theorem lk5 {A l : Hp} {a b d e f : Option Blk} {c : List AV} {g N : Nat} (h : A.length = N) : Zz.look (A ++ a :: b :: d :: e :: f :: some ⟨g, c⟩ :: l) (N + 5) g = some c := by subst h; simp [Zz.look]
theorem st5 {A l : Hp} {a b d e f x y : Option Blk} {N : Nat} (h : A.length = N) : (A ++ a :: b :: d :: e :: f :: x :: l).set (N + 5) y = A ++ a :: b :: d :: e :: f :: y :: l := by subst h; simp
theorem run3 {n dk keep : Int} {x : AV} {ms : List Mv} (hx : MvL x ms) (hd : 0 ≤ dk ∧ dk < 256) : WF E32 (.func 3 [] []) [.int .i64 n, x, .int .u8 dk, .int .i64 keep] ⟨[], []⟩ fun y m' => y = .bool true := by
  obtain ⟨hd1, hd2⟩ := hd
  by_cases hg : ms.length ≤ 40 ∧ 1 ≤ n ∧ n ≤ 8 ∧ 0 ≤ keep
  · obtain ⟨hg1, hg2, hg3, hg4⟩ := hg
    refine WF.fnE rfl (fn_of Tryd.func3 cir3) (by show 4 ≤ 157; decide) ?_
    unfold ir3; dsimp only [k0, kI, mV, oO, oG]
    simp only [padTo, List.replicate, List.nil_append, List.append_nil, List.cons_append]
    repeat' (first | (refine WO.yes rfl ?_) | (refine WO.opE (by intro; simp (disch := omega) only [go_sem, zeros, List.length_append, ov_one0, ov_one1, ov_one2, ov_one3, ov_all2, ov_all3, ov_all4, ov_all5, ov_all6, over7, cut7, cut4b, cut4c, fillP, Option.bind_eq_bind, cellsEq, cellEq, Nat.reduceAdd, Nat.reduceMul, Nat.reduceSub, Nat.reduceLeDiff, Nat.reduceEqDiff, Int.reduceNeg, Int.reduceAdd, Int.reduceToNat, reduceIte, reduceCtorEq]; rfl) (by simp only [pt8, pt0, pt1, pt2, pt3, pt4, pt5, pt6, pt7]; rfl) ?_) | (refine WO.opE (by intro; exact ev_lenS (by simp only [go_sem]; exact hx.len)) (by simp only [pt8, pt0, pt1, pt2, pt3, pt4, pt5, pt6, pt7]; rfl) ?_) | (refine WO.specE rfl rfl (s4) (by simp only [pt8, pt0, pt1, pt2, pt3, pt4, pt5, pt6, pt7]; rfl) ?_) | (refine WC.seq ?_) | (refine WC.region ?_) | (refine WO.nil ?_) | (simp only [fl1, fl2, fl3, fl4, fl5, fl6, fl7, fl8, fl9, fl10, Nat.reduceBEq]) | (refine WC.skip ?_) | (refine WC.block ?_) | (refine WO.em2 rfl (by intro hp; simp only [hp, decide_true]; rfl) (by intro hp; simp only [hp, decide_false]; rfl) (fun hp => ?_) (fun hp => ?_) <;> try (exfalso; first | omega | contradiction)) | (refine WC.em2 rfl (fun hp => ?_) (fun hp => ?_) <;> try (exfalso; first | omega | contradiction)))
    refine WC.loopI (fun m s => ∃ T i X, s = ⟨T, X, []⟩ ∧ T.length = 157 ∧ gt T 0 = .int .i64 n ∧ gt T 1 = x ∧ gt T 2 = .int .u8 dk ∧ gt T 3 = .int .i64 keep ∧ gt T 8 = .bool false ∧ gt T 9 = .bool true ∧ gt T 43 = x ∧ gt T 44 = .int .i64 (ms.length : Nat) ∧ gt T 45 = .int .i64 (i : Nat) ∧ m + i = ms.length ∧ ∀ j < i, (mnth ms j).k = 2 → (mnth ms j).v.s = 1) ?_ ms.length _ ⟨_, 0, _, rfl, rfl, rfl, rfl, rfl, rfl, rfl, rfl, rfl, rfl, rfl, by omega, by omega⟩
    rintro m _ ⟨T, i, X, rfl, hT, g0, g1, g2, g3, g8, g9, g43, g44, g45, hml, hok⟩
    obtain ⟨f, rfl⟩ := ex157 hT
    clear hT
    replace g0 : f 0 = .int .i64 n := g0
    replace g1 : f 1 = x := g1
    replace g2 : f 2 = .int .u8 dk := g2
    replace g3 : f 3 = .int .i64 keep := g3
    replace g8 : f 8 = .bool false := g8
    replace g9 : f 9 = .bool true := g9
    replace g43 : f 43 = x := g43
    replace g44 : f 44 = .int .i64 (ms.length : Nat) := g44
    replace g45 : f 45 = .int .i64 (i : Nat) := g45
    simp only [g0, g1, g2, g3, g8, g9, g43, g44, g45]
    by_cases hi : i < ms.length
    · have hat := hx.at hi
      generalize hmv : mnth ms i = mv at *
      repeat' (first | (refine WO.yes rfl ?_) | (refine WO.noE rfl (by simp only [pt8, pt0, pt1, pt2, pt3, pt4, pt5, pt6, pt7]; rfl) ?_) | (refine WO.opE (by intro; simp (disch := omega) only [go_sem, zeros, List.length_append, ov_one0, ov_one1, ov_one2, ov_one3, ov_all2, ov_all3, ov_all4, ov_all5, ov_all6, over7, cut7, cut4b, cut4c, fillP, Option.bind_eq_bind, cellsEq, cellEq, Nat.reduceAdd, Nat.reduceMul, Nat.reduceSub, Nat.reduceLeDiff, Nat.reduceEqDiff, Int.reduceNeg, Int.reduceAdd, Int.reduceToNat, reduceIte, reduceCtorEq, hat, lk0, st0, setBlk]; rfl) (by simp only [pt8, pt0, pt1, pt2, pt3, pt4, pt5, pt6, pt7]; rfl) ?_) | (refine WO.opN (by intro; simp (disch := omega) only [go_sem, zeros, List.length_append, ov_one0, ov_one1, ov_one2, ov_one3, ov_all2, ov_all3, ov_all4, ov_all5, ov_all6, over7, cut7, cut4b, cut4c, fillP, Option.bind_eq_bind, cellsEq, cellEq, Nat.reduceAdd, Nat.reduceMul, Nat.reduceSub, Nat.reduceLeDiff, Nat.reduceEqDiff, Int.reduceNeg, Int.reduceAdd, Int.reduceToNat, reduceIte, reduceCtorEq, hat, lk0, st0, setBlk]; rfl) ?_) | (refine WC.seq ?_) | (refine WC.region ?_) | (refine WO.nil ?_) | (simp only [fl1, fl2, fl3, fl4, fl5, fl6, fl7, fl8, fl9, fl10, Nat.reduceBEq]) | (refine WC.no rfl ?_) | (refine WC.skip ?_) | (refine WC.ret ?_) | (refine WC.block ?_) | (refine WO.em2 rfl (by intro hp; simp only [hp, decide_true]; rfl) (by intro hp; simp only [hp, decide_false]; rfl) (fun hp => ?_) (fun hp => ?_) <;> try (exfalso; first | omega | contradiction)) | (refine WC.em2 rfl (fun hp => ?_) (fun hp => ?_) <;> try (exfalso; first | omega | contradiction)))
      all_goals first
        | exact ⟨_, rfl, rfl⟩
        | skip
      all_goals refine ⟨m - 1, by omega, _, i + 1, _, rfl, rfl, rfl, rfl, rfl, rfl, rfl, rfl, rfl, rfl, rfl, by omega, fun j hj => ?_⟩
      all_goals by_cases e : j = i
      all_goals first
        | (subst e; rw [hmv]; omega)
        | exact hok j (by omega)
    · have hie : i = ms.length := by omega
      have h1 : ∀ m ∈ ms, m.k = 2 → m.v.s = 1 := fun m hm => by
        obtain ⟨j, hj, rfl⟩ := List.getElem_of_mem hm
        have := hok j (by omega)
        have e : mnth ms j = ms[j] := by simp [mnth, hj]
        rwa [e] at this
      clear hok
      have hk0 : 0 ≤ dk.tmod n ∧ dk.tmod n < n := ⟨Int.tmod_nonneg _ hd1, Int.tmod_lt_of_pos _ (by omega)⟩
      have hdw : IntKind.i64.wrap dk = dk := wrap_id (by omega) (by omega)
      have hn0 : ¬ n = 0 := by omega
      have hb : ∀ m : Mem, borrowX E11 5 [.int .i64 n, x] m = some (runV n ms, m) := fun m => s5x (hx.byVal _) hx (by omega)
      by_cases hr : RunOk n ms
      · have hrv : runV n ms = .tuple [rsV (runM n ms), .int .i64 0] := if_pos hr
        unfold rsV at hrv
        rw [hrv] at hb
        obtain ⟨hinv, hrl, hR1, lf, hf, hfl, hfa⟩ := recs_fold hr hk0 h1 ms.length (Nat.le_refl _)
        rw [List.take_length] at hinv hfa
        have hacl : (((runM n ms).acs.length : Nat) : Int) = n := by have := hinv.len; omega
        have hdo : DkOf (dV (FR (recs n (dk.tmod n) ms ms.length))) (recs n (dk.tmod n) ms ms.length) lf := ⟨dV_ok _, hR1, by omega, hf, hfl⟩
        have haa := hinv.a _ (acAt_mem hinv.len hk0)
        rw [← hfa] at haa
        obtain ⟨hc1, lf2, hc2, hc3, hc4⟩ := comp_ok haa.1 haa.2
        have hcl : (comp (lf.getD 0 ac0)).length ≤ 2 := by
          unfold comp
          rw [List.length_append]
          split <;> split <;> simp
        have hdc : DkOf (dV (FR (comp (lf.getD 0 ac0)))) (comp (lf.getD 0 ac0)) lf2 := ⟨dV_ok _, hc1, by omega, hc2, hc3⟩
        have hacs := acs_at (l := (runM n ms).acs) (k := dk.tmod n) (by omega)
        have haeq : (runM n ms).acs.getD (dk.tmod n).toNat ac0 = lf.getD 0 ac0 := hfa.symm
        rw [haeq] at hacs
        have h6 : ∀ m, borrowE E30 6 [.int .i64 n, x, .int .i64 (dk.tmod n)] m = _ := fun m => s6 hx hr hk0 h1 hg1
        have h7 : ∀ m, borrowE E21 7 [.agg [dV (FR (recs n (dk.tmod n) ms ms.length)), .int .i64 ((FR (recs n (dk.tmod n) ms ms.length)).length : Nat)], .int .i64 keep] m = _ := fun m => s7 (dV_ok _) hdo.len hg4
        have h8 : ∀ m, borrowE E27 8 [.agg [dV (FR (recs n (dk.tmod n) ms ms.length)), .int .i64 ((FR (recs n (dk.tmod n) ms ms.length)).length : Nat)]] m = _ := fun m => s8 hdo
        have h9 : ∀ m, borrowE E28 9 [.agg [dV (FR (recs n (dk.tmod n) ms ms.length)), .int .i64 ((FR (recs n (dk.tmod n) ms ms.length)).length : Nat)]] m = _ := fun m => s9 hdo haa.1 haa.2
        have h7c : ∀ m, borrowE E21 7 [.agg [dV (FR (comp (lf.getD 0 ac0))), .int .i64 ((FR (comp (lf.getD 0 ac0))).length : Nat)], .int .i64 keep] m = _ := fun m => s7 (dV_ok _) hdc.len hg4
        have h8c : ∀ m, borrowE E27 8 [.agg [dV (FR (comp (lf.getD 0 ac0))), .int .i64 ((FR (comp (lf.getD 0 ac0))).length : Nat)]] m = _ := fun m => s8 hdc
        rw [hc4] at h8c
        have hca := (dV_ok (FR (recs n (dk.tmod n) ms ms.length))).by.cells
        have hcb := (dV_ok (FR (comp (lf.getD 0 ac0)))).by.cells
        unfold AV.cells at hca hcb
        generalize lf.getD 0 ac0 = a at *
        clear hinv hrl hR1 hf hfl hfa hdo haa hc1 hc2 hc3 hc4 hcl hdc haeq
        repeat' (first | (refine WO.yes rfl ?_) | (refine WO.opE (by intro; simp (disch := omega) only [go_sem, zeros, List.length_append, ov_one0, ov_one1, ov_one2, ov_one3, ov_all2, ov_all3, ov_all4, ov_all5, ov_all6, over7, cut7, cut4b, cut4c, fillP, Option.bind_eq_bind, cellsEq, cellEq, Nat.reduceAdd, Nat.reduceMul, Nat.reduceSub, Nat.reduceLeDiff, Nat.reduceEqDiff, Int.reduceNeg, Int.reduceAdd, Int.reduceToNat, reduceIte, reduceCtorEq, hdw, hn0, hacs, hca, hcb, lk0, lk1, lk2, lk3, lk4, lk5, st0, st1, st2, st3, st4, st5, setBlk, List.append_assoc]; rfl) (by simp only [pt8, pt0, pt1, pt2, pt3, pt4, pt5, pt6, pt7]; rfl) ?_) | (refine WO.opN (by intro; simp (disch := omega) only [go_sem, zeros, List.length_append, ov_one0, ov_one1, ov_one2, ov_one3, ov_all2, ov_all3, ov_all4, ov_all5, ov_all6, over7, cut7, cut4b, cut4c, fillP, Option.bind_eq_bind, cellsEq, cellEq, Nat.reduceAdd, Nat.reduceMul, Nat.reduceSub, Nat.reduceLeDiff, Nat.reduceEqDiff, Int.reduceNeg, Int.reduceAdd, Int.reduceToNat, reduceIte, reduceCtorEq, hdw, hn0, hacs, hca, hcb, lk0, lk1, lk2, lk3, lk4, lk5, st0, st1, st2, st3, st4, st5, setBlk, List.append_assoc]; rfl) ?_) | (refine WO.opE (by intro; exact ev_lenS (by simp only [go_sem]; first | rfl | assumption)) (by simp only [pt8, pt0, pt1, pt2, pt3, pt4, pt5, pt6, pt7]; rfl) ?_) | (refine WO.specE rfl rfl (hb _) (by simp only [pt8, pt0, pt1, pt2, pt3, pt4, pt5, pt6, pt7]; rfl) ?_) | (refine WO.specE rfl rfl (h6 _) (by simp only [pt8, pt0, pt1, pt2, pt3, pt4, pt5, pt6, pt7]; rfl) ?_) | (refine WO.specE rfl rfl (h7 _) (by simp only [pt8, pt0, pt1, pt2, pt3, pt4, pt5, pt6, pt7]; rfl) ?_) | (refine WO.specE rfl rfl (h8 _) (by simp only [pt8, pt0, pt1, pt2, pt3, pt4, pt5, pt6, pt7]; rfl) ?_) | (refine WO.specE rfl rfl (h9 _) (by simp only [pt8, pt0, pt1, pt2, pt3, pt4, pt5, pt6, pt7]; rfl) ?_) | (refine WO.specE rfl rfl (h7c _) (by simp only [pt8, pt0, pt1, pt2, pt3, pt4, pt5, pt6, pt7]; rfl) ?_) | (refine WO.specE rfl rfl (h8c _) (by simp only [pt8, pt0, pt1, pt2, pt3, pt4, pt5, pt6, pt7]; rfl) ?_) | (refine WC.seq ?_) | (refine WC.region ?_) | (refine WO.nil ?_) | (simp only [fl1, fl2, fl3, fl4, fl5, fl6, fl7, fl8, fl9, fl10, Nat.reduceBEq]) | (refine WC.calm rfl ?_) | (refine WC.no rfl ?_) | (refine WC.skip ?_) | (refine WC.exit ?_) | (refine WC.ret ?_) | (refine WC.em2 rfl (fun hp => ?_) (fun hp => ?_) <;> try (exfalso; first | omega | contradiction)))
        exact ⟨_, rfl, rfl⟩
      · have hrv : runV n ms = .tuple [.agg [.snil, .snil, .snil, .snil], .int .i64 1] := if_neg hr
        rw [hrv] at hb
        repeat' (first | (refine WO.yes rfl ?_) | (refine WO.opE (by intro; simp (disch := omega) only [go_sem, zeros, List.length_append, ov_one0, ov_one1, ov_one2, ov_one3, ov_all2, ov_all3, ov_all4, ov_all5, ov_all6, over7, cut7, cut4b, cut4c, fillP, Option.bind_eq_bind, cellsEq, cellEq, Nat.reduceAdd, Nat.reduceMul, Nat.reduceSub, Nat.reduceLeDiff, Nat.reduceEqDiff, Int.reduceNeg, Int.reduceAdd, Int.reduceToNat, reduceIte, reduceCtorEq, hdw, hn0, lk0, st0, setBlk]; rfl) (by simp only [pt8, pt0, pt1, pt2, pt3, pt4, pt5, pt6, pt7]; rfl) ?_) | (refine WO.opN (by intro; simp (disch := omega) only [go_sem, zeros, List.length_append, ov_one0, ov_one1, ov_one2, ov_one3, ov_all2, ov_all3, ov_all4, ov_all5, ov_all6, over7, cut7, cut4b, cut4c, fillP, Option.bind_eq_bind, cellsEq, cellEq, Nat.reduceAdd, Nat.reduceMul, Nat.reduceSub, Nat.reduceLeDiff, Nat.reduceEqDiff, Int.reduceNeg, Int.reduceAdd, Int.reduceToNat, reduceIte, reduceCtorEq, hdw, hn0, lk0, st0, setBlk]; rfl) ?_) | (refine WO.specE rfl rfl (hb _) (by simp only [pt8, pt0, pt1, pt2, pt3, pt4, pt5, pt6, pt7]; rfl) ?_) | (refine WC.seq ?_) | (refine WC.region ?_) | (refine WO.nil ?_) | (simp only [fl1, fl2, fl3, fl4, fl5, fl6, fl7, fl8, fl9, fl10, Nat.reduceBEq]) | (refine WC.yes rfl ?_) | (refine WC.exit ?_) | (refine WC.ret ?_) | (refine WC.em2 rfl (fun hp => ?_) (fun hp => ?_) <;> try (exfalso; first | omega | contradiction)))
        exact ⟨_, rfl, rfl⟩
  · 
    refine WF.fnE rfl (fn_of Tryd.func3 cir3) (by show 4 ≤ 157; decide) ?_
    unfold ir3; dsimp only [k0, kI, mV, oO, oG]
    simp only [padTo, List.replicate, List.nil_append, List.append_nil, List.cons_append]
    repeat' (first | (refine WO.yes rfl ?_) | (refine WO.noE rfl (by simp only [pt8, pt0, pt1, pt2, pt3, pt4, pt5, pt6, pt7]; rfl) ?_) | (refine WO.opE (by intro; simp (disch := omega) only [go_sem, zeros, List.length_append, ov_one0, ov_one1, ov_one2, ov_one3, ov_all2, ov_all3, ov_all4, ov_all5, ov_all6, over7, cut7, cut4b, cut4c, fillP, Option.bind_eq_bind, cellsEq, cellEq, Nat.reduceAdd, Nat.reduceMul, Nat.reduceSub, Nat.reduceLeDiff, Nat.reduceEqDiff, Int.reduceNeg, Int.reduceAdd, Int.reduceToNat, reduceIte, reduceCtorEq]; rfl) (by simp only [pt8, pt0, pt1, pt2, pt3, pt4, pt5, pt6, pt7]; rfl) ?_) | (refine WO.opE (by intro; exact ev_lenS (by simp only [go_sem]; exact hx.len)) (by simp only [pt8, pt0, pt1, pt2, pt3, pt4, pt5, pt6, pt7]; rfl) ?_) | (refine WO.specE rfl rfl (s4) (by simp only [pt8, pt0, pt1, pt2, pt3, pt4, pt5, pt6, pt7]; rfl) ?_) | (refine WC.seq ?_) | (refine WC.region ?_) | (refine WO.nil ?_) | (simp only [fl1, fl2, fl3, fl4, fl5, fl6, fl7, fl8, fl9, fl10, Nat.reduceBEq]) | (refine WC.yes rfl ?_) | (refine WC.ret ?_) | (refine WO.em2 rfl (by intro hp; simp only [hp, decide_true]; rfl) (by intro hp; simp only [hp, decide_false]; rfl) (fun hp => ?_) (fun hp => ?_) <;> try (exfalso; first | omega | contradiction)) | (refine WC.em2 rfl (fun hp => ?_) (fun hp => ?_) <;> try (exfalso; first | omega | contradiction)))
    all_goals first
      | (exfalso; exact hg ⟨by omega, by omega, by omega, by omega⟩)
      | exact ⟨_, rfl, rfl⟩
end Go.Proofs.YtgchabldcnmccaaDoor

