import Derived.Test.YtnilimjkibimcaaPl

set_option linter.unusedSimpArgs false
set_option linter.unusedVariables false
namespace Go.Proofs.Ytnilimjkibimcaa
open Go.Zz
set_option maxRecDepth 100000
set_option maxHeartbeats 8000000
theorem tmod_nat (a n : Nat) : ((a : Nat) : Int).tmod ((n : Nat) : Int) = ((a % n : Nat) : Int) := rfl
theorem mul_sym {a b A B : Int} (h1 : -A ≤ a ∧ a ≤ A) (h2 : -B ≤ b ∧ b ≤ B) : -(A * B) ≤ a * b ∧ a * b ≤ A * B := by
  rcases Int.le_total 0 a with h | h
  · exact mul_bnd h h1.2 h2.1 h2.2
  · have := mul_bnd (a := -a) (A := A) (b := b) (B := B) (by omega) (by omega) h2.1 h2.2
    rw [Int.neg_mul] at this
    omega
/-- changed -/
theorem f41 {l : AV} {rows : List (List Int)} {a b : Nat} {f0 : Int} (hl : RwL l rows) (hv : VM rows) (hne : 0 < rows.length) (ha : a < 256) (hb : b < 256) (hf : -32768 ≤ f0 ∧ f0 ≤ 32767) :
    WF E41 (.func 41 [] []) [l, .int .u8 (a : Nat), .int .u8 (b : Nat), .int .i16 f0] ⟨[], []⟩ fun y m' => ∃ q, GS 6 m'.heap y q (flatR (changedR rows (a % rows.length) (b % rows.length) f0)) := by
  have h6 : ∀ r ∈ rows, r.length = 6 := fun r hr => by
    obtain ⟨i, hi, rfl⟩ := List.mem_iff_getElem.1 hr
    rw [← rw_lt hi]
    exact hl.six hi
  have hr8 := hv.1
  have hfl := flatR_len h6
  have hsc : ∀ H, Zz.scells H 6 l = some (flatR rows) := fun H => SL.scells hl H
  have hll := hl.len
  obtain ⟨v1, q, H1, b1, hg, hq, hl1, _⟩ := (show GS 6 [some ⟨0, []⟩] (.sref 0 0 0 6 0 (some 0)) 0 [] from .inr (.inl ⟨0, rfl, rfl, rfl⟩)).appendX (L := []) (bytes := 48) (hsc _) hll (by rw [hfl]) (by decide) ⟨by simp; omega, by simp; omega⟩
  rw [List.nil_append] at hg
  obtain ⟨g, n, rfl, c1, c2, c3⟩ := hg.ref (by intro h; rw [h] at hfl; simp at hfl; omega)
  have hn : n = rows.length := by omega
  subst hn
  have hn0 : ¬ ((rows.length : Nat) : Int) = 0 := by omega
  have hr1 := tmod_nat a rows.length
  have hr2 := tmod_nat b rows.length
  have hi := Nat.mod_lt a hne
  have hk := Nat.mod_lt b hne
  generalize hid : a % rows.length = i at *
  generalize hkd : b % rows.length = k at *
  have hxi : indexAddrAV 6 (.sref q g 0 6 rows.length none) (.int .i64 (i : Int)) = some (.pref q g (i * 6)) := by rw [ia_sref, idx_nat hi]; simp
  have hxk : indexAddrAV 6 (.sref q g 0 6 rows.length none) (.int .i64 (k : Int)) = some (.pref q g (k * 6)) := by rw [ia_sref, idx_nat hk]; simp
  have d1 := flatR_cut h6 hi
  have d2 := flatR_cut h6 hk
  have d3 := flatR_over h6 hi (h6 _ (row_mem hk))
  have d4 := flatR_over (set_six h6 (h6 _ (row_mem hk)) (i := i)) (show k < (rows.set i (rows.getD k [])).length by simpa using hk) (h6 _ (row_mem hi))
  have c4 : Zz.look (H1.set q (some ⟨g, flatR (rows.set i (rows.getD k []))⟩)) q g = some (flatR (rows.set i (rows.getD k []))) := look_set c3
  have m1 : (icells (rows.getD i [])).length = 6 := by rw [icells_len, h6 _ (row_mem hi)]
  have m2 : (icells (rows.getD k [])).length = 6 := by rw [icells_len, h6 _ (row_mem hk)]
  refine WF.fnE rfl (fn_of Try.func41 cir41) (by show 4 ≤ 84; decide) ?_
  unfold ir41
  simp only [padTo, List.replicate, List.nil_append, List.append_nil, List.cons_append]
  repeat' (first | (refine WO.opE (by intro; simp (disch := omega) only [go_sem, fillP, Option.bind_eq_bind, List.append_assoc, app_g0, app_g1, app_g2, app_g3, app_g4, app_s0, app_s1, app_s2, app_s3, app_s4, zeros, List.length_append, ov_one0, ov_one1, ov_one2, ov_one3, ov_all2, ov_all3, ov_all4, Nat.reduceAdd, Nat.reduceMul, Nat.reduceSub, Nat.reduceLeDiff, Nat.reduceEqDiff, Int.reduceNeg, Int.reduceAdd, Int.reduceToNat, reduceIte, reduceCtorEq, hn0, if_false, hr1, hr2, hxi, hxk, c2, d1, d2, d3, d4, c4, m1, m2, setBlk]; rfl) (by simp only [pt8, pt0, pt1, pt2, pt3, pt4, pt5, pt6, pt7]; rfl) ?_) | (refine WO.opN (by intro; simp (disch := omega) only [go_sem, fillP, Option.bind_eq_bind, List.append_assoc, app_g0, app_g1, app_g2, app_g3, app_g4, app_s0, app_s1, app_s2, app_s3, app_s4, zeros, List.length_append, ov_one0, ov_one1, ov_one2, ov_one3, ov_all2, ov_all3, ov_all4, Nat.reduceAdd, Nat.reduceMul, Nat.reduceSub, Nat.reduceLeDiff, Nat.reduceEqDiff, Int.reduceNeg, Int.reduceAdd, Int.reduceToNat, reduceIte, reduceCtorEq, hn0, if_false, hr1, hr2, hxi, hxk, c2, d1, d2, d3, d4, c4, m1, m2, setBlk]; rfl) ?_) | (refine WO.opE (by intro; exact ev_lenS (by simp only [go_sem]; first | rfl | assumption)) (by simp only [pt8, pt0, pt1, pt2, pt3, pt4, pt5, pt6, pt7]; rfl) ?_) | (refine WO.opE (by intro; rw [ev_append]; exact b1) (by simp only [pt8, pt0, pt1, pt2, pt3, pt4, pt5, pt6, pt7]; rfl) ?_) | (refine WC.seq ?_) | (refine WC.region ?_) | (refine WO.nil ?_) | (simp only [fl1, fl2, fl3, fl4, fl5, fl6, fl7, fl8, fl9, fl10, Nat.reduceBEq]) | (refine WC.calm rfl ?_) | (refine WC.block ?_))
  clear d1 d2 d3 d4 c4 m1 m2 b1
  have hR6 := swap_six h6 hi hk
  have hRl := swap_len (R := rows) (i := i) (k := k)
  have hRrow := swap_row hi hk
  have hbd : ∀ r j, j < 6 → -1000000000 ≤ ent (swapR rows i k) r j ∧ ent (swapR rows i k) r j ≤ 1000000000 := fun r j hj => by
    have key : ∀ t, -1000000000 ≤ (rows.getD t []).getD j 0 ∧ (rows.getD t []).getD j 0 ≤ 1000000000 := fun t => by
      by_cases ht : t < rows.length
      · exact hv.2.1 t ht j hj
      · have e : rows.getD t [] = [] := by
          rw [List.getD_eq_getElem?_getD, List.getElem?_eq_none (by omega)]
          rfl
        rw [e]
        simp
    unfold ent rw_
    rw [hRrow]
    split
    · exact key i
    · split
      · exact key k
      · exact key r
  have hstart : Zz.look ((H1.set q (some ⟨g, flatR (rows.set i (rows.getD k []))⟩)).set q (some ⟨g, flatR ((rows.set i (rows.getD k [])).set k (rows.getD i []))⟩)) q g = some (flatR (negC (swapR rows i k) k 0)) := look_set (by rw [List.length_set]; exact c3)
  refine WC.loopI (fun m s => ∃ T G t, s = ⟨T, G, []⟩ ∧ T.length = 84 ∧ gt T 3 = .int .i16 f0 ∧ gt T 9 = .sref q g 0 6 rows.length none ∧ gt T 10 = .int .i64 (i : Nat) ∧ gt T 11 = .int .i64 (k : Nat) ∧ gt T 12 = .int .i64 (t : Nat) ∧ m + t = 6 ∧ Zz.look G q g = some (flatR (negC (swapR rows i k) k t))) ?_ 6 _ ⟨_, _, 0, rfl, rfl, rfl, rfl, rfl, rfl, rfl, by omega, hstart⟩
  clear hstart c2 c3 hq hl1 hg hfl
  rintro m _ ⟨T, G, t, rfl, hT, g3, g9, g10, g11, g12, hm, hG⟩
  obtain ⟨f, rfl⟩ := ex84 hT
  clear hT
  replace g3 : f 3 = .int .i16 f0 := g3
  replace g9 : f 9 = .sref q g 0 6 rows.length none := g9
  replace g10 : f 10 = .int .i64 (i : Nat) := g10
  replace g11 : f 11 = .int .i64 (k : Nat) := g11
  replace g12 : f 12 = .int .i64 (t : Nat) := g12
  simp only [g3, g9, g10, g11, g12]
  obtain ⟨n1, n2, n3⟩ := negC_all hR6 (k := k) (by omega) t (by omega)
  by_cases ht : t < 6
  · have hat := flatR_at n2 (i := k) (j := t) (by omega) ht
    have hov := flatR_over1 n2 (i := k) (j := t) (by omega) ht (-(ent (negC (swapR rows i k) k t) k t))
    have hbe : -1000000000 ≤ ent (negC (swapR rows i k) k t) k t ∧ ent (negC (swapR rows i k) k t) k t ≤ 1000000000 := by
      rw [n3, if_neg (by omega)]
      exact hbd k t ht
    obtain ⟨hb1, hb2⟩ := hbe
    have hlt := look_lt hG
    repeat' (first | (refine WO.opE (by intro; simp (disch := omega) only [go_sem, fillP, Option.bind_eq_bind, List.append_assoc, app_g0, app_g1, app_g2, app_g3, app_g4, app_s0, app_s1, app_s2, app_s3, app_s4, zeros, List.length_append, ov_one0, ov_one1, ov_one2, ov_one3, ov_all2, ov_all3, ov_all4, Nat.reduceAdd, Nat.reduceMul, Nat.reduceSub, Nat.reduceLeDiff, Nat.reduceEqDiff, Int.reduceNeg, Int.reduceAdd, Int.reduceToNat, reduceIte, reduceCtorEq, hxk, hG, hat, hov, Nat.mul_one, Int.zero_sub, setBlk]; rfl) (by simp only [pt8, pt0, pt1, pt2, pt3, pt4, pt5, pt6, pt7]; rfl) ?_) | (refine WO.opN (by intro; simp (disch := omega) only [go_sem, fillP, Option.bind_eq_bind, List.append_assoc, app_g0, app_g1, app_g2, app_g3, app_g4, app_s0, app_s1, app_s2, app_s3, app_s4, zeros, List.length_append, ov_one0, ov_one1, ov_one2, ov_one3, ov_all2, ov_all3, ov_all4, Nat.reduceAdd, Nat.reduceMul, Nat.reduceSub, Nat.reduceLeDiff, Nat.reduceEqDiff, Int.reduceNeg, Int.reduceAdd, Int.reduceToNat, reduceIte, reduceCtorEq, hxk, hG, hat, hov, Nat.mul_one, Int.zero_sub, setBlk]; rfl) ?_) | (refine WC.seq ?_) | (refine WC.region ?_) | (refine WO.nil ?_) | (simp only [fl1, fl2, fl3, fl4, fl5, fl6, fl7, fl8, fl9, fl10, Nat.reduceBEq]) | (refine WC.calm rfl ?_) | (refine WC.skip ?_) | (refine WC.block ?_) | (refine WC.em2 rfl (fun hp => ?_) (fun hp => ?_) <;> try (exfalso; first | omega | contradiction)))
    exact ⟨m - 1, by omega, _, _, t + 1, rfl, rfl, rfl, rfl, rfl, rfl, rfl, by omega, look_set hlt⟩
  · have hte : t = 6 := by omega
    subst hte
    repeat' (first | (refine WO.opE (by intro; simp (disch := omega) only [go_sem, fillP, Option.bind_eq_bind, List.append_assoc, app_g0, app_g1, app_g2, app_g3, app_g4, app_s0, app_s1, app_s2, app_s3, app_s4, zeros, List.length_append, ov_one0, ov_one1, ov_one2, ov_one3, ov_all2, ov_all3, ov_all4, Nat.reduceAdd, Nat.reduceMul, Nat.reduceSub, Nat.reduceLeDiff, Nat.reduceEqDiff, Int.reduceNeg, Int.reduceAdd, Int.reduceToNat, reduceIte, reduceCtorEq]; rfl) (by simp only [pt8, pt0, pt1, pt2, pt3, pt4, pt5, pt6, pt7]; rfl) ?_) | (refine WC.seq ?_) | (refine WC.region ?_) | (refine WO.nil ?_) | (simp only [fl1, fl2, fl3, fl4, fl5, fl6, fl7, fl8, fl9, fl10, Nat.reduceBEq]) | (refine WC.no rfl ?_) | (refine WC.skip ?_) | (refine WC.exit ?_) | (refine WC.ret ?_) | (refine WC.block ?_) | (refine WC.em2 rfl (fun hp => ?_) (fun hp => ?_) <;> try (exfalso; first | omega | contradiction)))
    · have hik : i = k := by omega
      refine ⟨_, rfl, q, .inr (.inr ⟨g, rows.length, rfl, ?_, hne, ?_⟩)⟩
      · unfold changedR
        rw [if_pos hik, flatR_len n2, n1, hRl]
      · unfold changedR
        rw [if_pos hik]
        exact hG
    · have hik : i ≠ k := by omega
      rw [hRl] at n1
      generalize hR2 : negC (swapR rows i k) k 6 = R2 at *
      have hbd2 : ∀ r j, j < 6 → -1000000000 ≤ ent R2 r j ∧ ent R2 r j ≤ 1000000000 := fun r j hj => by
        have h1 := hbd r j hj
        have h2 := hbd k j hj
        rw [n3]
        split <;> omega
      clear hbd n3 ht
      refine WC.loopI (fun m s => ∃ T G t, s = ⟨T, G, []⟩ ∧ T.length = 84 ∧ gt T 3 = .int .i16 f0 ∧ gt T 9 = .sref q g 0 6 rows.length none ∧ gt T 10 = .int .i64 (i : Nat) ∧ gt T 11 = .int .i64 (k : Nat) ∧ gt T 13 = .int .i64 (t : Nat) ∧ m + t = 6 ∧ Zz.look G q g = some (flatR (mulC R2 i k f0 t))) ?_ 6 _ ⟨_, _, 0, rfl, rfl, rfl, rfl, rfl, rfl, rfl, by omega, hG⟩
      clear hG g3 g9 g10 g11 g12 f
      rintro m _ ⟨T, G, t, rfl, hT, g3, g9, g10, g11, g13, hm, hG⟩
      obtain ⟨f, rfl⟩ := ex84 hT
      clear hT
      replace g3 : f 3 = .int .i16 f0 := g3
      replace g9 : f 9 = .sref q g 0 6 rows.length none := g9
      replace g10 : f 10 = .int .i64 (i : Nat) := g10
      replace g11 : f 11 = .int .i64 (k : Nat) := g11
      replace g13 : f 13 = .int .i64 (t : Nat) := g13
      simp only [g3, g9, g10, g11, g13]
      obtain ⟨p1, p2, p3⟩ := mulC_all n2 (i := i) (k := k) (f := f0) (by omega) hik t (by omega)
      by_cases ht : t < 6
      · have hat := flatR_at p2 (i := i) (j := t) (by omega) ht
        have hat2 := flatR_at p2 (i := k) (j := t) (by omega) ht
        have hov := flatR_over1 p2 (i := i) (j := t) (by omega) ht (ent (mulC R2 i k f0 t) i t + f0 * ent (mulC R2 i k f0 t) k t)
        have hb1 : -1000000000 ≤ ent (mulC R2 i k f0 t) i t ∧ ent (mulC R2 i k f0 t) i t ≤ 1000000000 := by
          rw [p3, if_neg (by omega)]
          exact hbd2 i t ht
        have hb2 : -1000000000 ≤ ent (mulC R2 i k f0 t) k t ∧ ent (mulC R2 i k f0 t) k t ≤ 1000000000 := by
          rw [p3, if_neg (by omega)]
          exact hbd2 k t ht
        have hb3 : -1000000000000000000 ≤ f0 * ent (mulC R2 i k f0 t) k t ∧ f0 * ent (mulC R2 i k f0 t) k t ≤ 1000000000000000000 := by have := mul_sym (a := f0) (A := 32768) (B := 1000000000) ⟨by omega, by omega⟩ hb2; omega
        obtain ⟨q1, q2⟩ := hb1
        obtain ⟨q3, q4⟩ := hb3
        have hlt := look_lt hG
        repeat' (first | (refine WO.opE (by intro; simp (disch := omega) only [go_sem, fillP, Option.bind_eq_bind, List.append_assoc, app_g0, app_g1, app_g2, app_g3, app_g4, app_s0, app_s1, app_s2, app_s3, app_s4, zeros, List.length_append, ov_one0, ov_one1, ov_one2, ov_one3, ov_all2, ov_all3, ov_all4, Nat.reduceAdd, Nat.reduceMul, Nat.reduceSub, Nat.reduceLeDiff, Nat.reduceEqDiff, Int.reduceNeg, Int.reduceAdd, Int.reduceToNat, reduceIte, reduceCtorEq, hxi, hxk, hG, hat, hat2, hov, Nat.mul_one, setBlk]; rfl) (by simp only [pt8, pt0, pt1, pt2, pt3, pt4, pt5, pt6, pt7]; rfl) ?_) | (refine WO.opN (by intro; simp (disch := omega) only [go_sem, fillP, Option.bind_eq_bind, List.append_assoc, app_g0, app_g1, app_g2, app_g3, app_g4, app_s0, app_s1, app_s2, app_s3, app_s4, zeros, List.length_append, ov_one0, ov_one1, ov_one2, ov_one3, ov_all2, ov_all3, ov_all4, Nat.reduceAdd, Nat.reduceMul, Nat.reduceSub, Nat.reduceLeDiff, Nat.reduceEqDiff, Int.reduceNeg, Int.reduceAdd, Int.reduceToNat, reduceIte, reduceCtorEq, hxi, hxk, hG, hat, hat2, hov, Nat.mul_one, setBlk]; rfl) ?_) | (refine WC.seq ?_) | (refine WC.region ?_) | (refine WO.nil ?_) | (simp only [fl1, fl2, fl3, fl4, fl5, fl6, fl7, fl8, fl9, fl10, Nat.reduceBEq]) | (refine WC.calm rfl ?_) | (refine WC.skip ?_) | (refine WC.block ?_) | (refine WC.em2 rfl (fun hp => ?_) (fun hp => ?_) <;> try (exfalso; first | omega | contradiction)))
        exact ⟨m - 1, by omega, _, _, t + 1, rfl, rfl, rfl, rfl, rfl, rfl, rfl, by omega, look_set hlt⟩
      · have hte : t = 6 := by omega
        subst hte
        repeat' (first | (refine WO.opE (by intro; simp (disch := omega) only [go_sem, fillP, Option.bind_eq_bind, List.append_assoc, app_g0, app_g1, app_g2, app_g3, app_g4, app_s0, app_s1, app_s2, app_s3, app_s4, zeros, List.length_append, ov_one0, ov_one1, ov_one2, ov_one3, ov_all2, ov_all3, ov_all4, Nat.reduceAdd, Nat.reduceMul, Nat.reduceSub, Nat.reduceLeDiff, Nat.reduceEqDiff, Int.reduceNeg, Int.reduceAdd, Int.reduceToNat, reduceIte, reduceCtorEq]; rfl) (by simp only [pt8, pt0, pt1, pt2, pt3, pt4, pt5, pt6, pt7]; rfl) ?_) | (refine WC.seq ?_) | (refine WC.region ?_) | (refine WO.nil ?_) | (simp only [fl1, fl2, fl3, fl4, fl5, fl6, fl7, fl8, fl9, fl10, Nat.reduceBEq]) | (refine WC.no rfl ?_) | (refine WC.exit ?_) | (refine WC.ret ?_))
        refine ⟨_, rfl, q, .inr (.inr ⟨g, rows.length, rfl, ?_, hne, ?_⟩)⟩
        · unfold changedR
          rw [if_neg hik, hR2, flatR_len p2, p1, n1]
        · unfold changedR
          rw [if_neg hik, hR2]
          exact hG
end Go.Proofs.Ytnilimjkibimcaa

