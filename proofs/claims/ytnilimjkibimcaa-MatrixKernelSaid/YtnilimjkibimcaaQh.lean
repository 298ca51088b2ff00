import Derived.Test.YtnilimjkibimcaaQg
set_option linter.unusedSimpArgs false
set_option linter.unusedVariables false

namespace Go.Proofs.Ytnilimjkibimcaa
open Go.Zz
set_option maxRecDepth 100000
set_option maxHeartbeats 8000000
theorem fold_step {α : Type} {f : Nat → α → Nat} {L : List α} {d : α} {i a : Nat} (hi : i < L.length) : (L.drop i).foldl f a = (L.drop (i + 1)).foldl f (f a (L.getD i d)) := by
  rw [List.drop_eq_getElem_cons hi, List.foldl_cons, List.getD_eq_getElem?_getD, List.getElem?_eq_getElem hi]
  rfl
theorem gcd_bd9 {g x : Nat} (hg : g ≤ 9000000000000000000) (hx : x ≤ 9000000000000000000) : Nat.gcd g x ≤ 9000000000000000000 := by
  by_cases h : g = 0
  · subst h; rw [Nat.gcd_zero_left]; exact hx
  · exact Nat.le_trans (Nat.gcd_le_left x (by omega)) hg
theorem f40 {l : AV} {rows : List (List Int)} {k : Nat} (hl : RwL l rows) (h8 : rows.length ≤ 8) (hk : k ≤ 8)
    (c89 : ∀ is js, is ∈ subs rows.length k → js ∈ subs 6 k → ∀ (m : Mem) (iv jv iv' jv' : AV), NatS iv is → NatS jv js → Zz.byVal m.heap iv' = some iv → Zz.byVal m.heap jv' = some jv → borrowX G0 89 [l, iv', jv'] m = some (.int .i64 (minorF (ent rows) is js), m))
    (hb : ∀ is js, is ∈ subs rows.length k → js ∈ subs 6 k → -9000000000000000000 ≤ minorF (ent rows) is js ∧ minorF (ent rows) is js ≤ 9000000000000000000) :
    WF C2 (.func 40 [] []) [l, .int .i64 (k : Nat)] ⟨[], []⟩ fun y m' => y = .int .u64 (divRK rows k : Nat) := by
  have hll := hl.len
  refine WF.fnE rfl (fn_of Try.func40 cir40) (by show 2 ≤ 42; decide) ?_
  unfold ir40; dsimp only [k0, kI, mV, oO, oG]
  simp only [padTo, List.replicate, List.nil_append, List.append_nil]
  repeat' (first | (refine WO.opE (by intro; simp (disch := omega) only [go_sem]; rfl) (by simp only [pt8, pt2, pt4]; rfl) ?_) | (refine WO.opE (by intro; exact ev_lenS (by simp only [go_sem]; first | rfl | assumption)) (by simp only [pt8, pt3]; rfl) ?_) | (refine WC.seq ?_) | (refine WC.region ?_) | (refine WO.nil ?_) | (simp only [fl1]))
  refine WO.call rfl rfl ((f105 (E := C2) rfl (fn_of Try.func105 cir105) rows.length k [] h8 hk).mono ?_)
  rintro w1 m' ⟨H1, rfl, he1, hs1, _⟩
  simp only [pt8, pt5]
  repeat' (first | (refine WO.opE (by intro; simp (disch := omega) only [go_sem]; rfl) (by simp only [pt8, pt5, pt6]; rfl) ?_) | (refine WC.seq ?_) | (refine WC.region ?_) | (refine WO.nil ?_) | (simp only [fl1]))
  refine WO.call rfl rfl ((f105 (E := C2) rfl (fn_of Try.func105 cir105) 6 k H1 (by decide) hk).mono ?_)
  rintro w2 m' ⟨H, rfl, he2, hs2, _⟩
  simp only [pt8, pt7]
  have hs1 := hs1.keep (H' := H) he2.1 fun j _ hj => he2.2 j hj
  have hw1 := hs1.len
  have hw2 := hs2.len
  repeat' (first | (refine WO.opE (by intro; simp (disch := omega) only [go_sem]; rfl) (by simp only [pt8, pt0, pt6, pt7]; rfl) ?_) | (refine WC.seq ?_) | (refine WC.region ?_) | (refine WO.nil ?_) | (simp only [fl1]) | (refine WC.block ?_))
  refine WC.loopI (fun m s => ∃ T i g, s = ⟨T, H, []⟩ ∧ T.length = 42 ∧ gt T 0 = l ∧ gt T 5 = w1 ∧ gt T 6 = w2 ∧ gt T 7 = .int .u64 (g : Nat) ∧ gt T 8 = .int .i64 (i : Nat) ∧ m + i = (subs rows.length k).length ∧ g ≤ 9000000000000000000 ∧ ((subs rows.length k).drop i).foldl (dRow rows k) g = divRK rows k) ?_ (subs rows.length k).length _ ⟨_, 0, 0, rfl, rfl, rfl, rfl, rfl, rfl, rfl, by omega, by omega, rfl⟩
  rintro m _ ⟨T, i, g, rfl, hT, g0, g5, g6, g7, g8, hm, hg9, hf⟩
  obtain ⟨f, rfl⟩ := ex42 hT
  clear hT
  replace g0 : f 0 = l := g0
  replace g5 : f 5 = w1 := g5
  replace g6 : f 6 = w2 := g6
  replace g7 : f 7 = .int .u64 (g : Nat) := g7
  replace g8 : f 8 = .int .i64 (i : Nat) := g8
  simp only [g0, g5, g6, g7, g8]
  have hc1 := subs_count rows.length k
  have hp8 : 2 ^ rows.length ≤ 256 := Nat.pow_le_pow_right (n := 2) (by decide) h8
  have hc2 := subs_count 6 k
  by_cases hi : i < (subs rows.length k).length
  · obtain ⟨qa, ga, oa, ca, xa, a1, a2, a3, ja⟩ := hs1.js hi
    obtain ⟨xv, bv1, nv1⟩ := ja.byVal
    have hmi : (subs rows.length k).getD i [] ∈ subs rows.length k := by
      rw [List.getD_eq_getElem?_getD, List.getElem?_eq_getElem hi]
      exact List.getElem_mem hi
    rw [fold_step (d := []) hi] at hf
    generalize hise : (subs rows.length k).getD i [] = is at *
    repeat' (first | (refine WO.opE (by intro; simp (disch := omega) only [go_sem]; rfl) (by simp only [pt8, pt0, pt1, pt3]; rfl) ?_) | (refine WO.opE (by intro; exact ev_lenS (by simp only [go_sem]; first | rfl | assumption)) (by simp only [pt8, pt2]; rfl) ?_) | (refine WC.seq ?_) | (refine WC.region ?_) | (refine WO.nil ?_) | (simp only [fl1]) | (refine WC.skip ?_) | (refine WC.block ?_) | (refine WC.em2 rfl (fun hp => ?_) (fun hp => ?_) <;> try (exfalso; first | omega | contradiction)))
    refine WC.loopI (fun m2 s => ∃ T j g2, s = ⟨T, H, []⟩ ∧ T.length = 42 ∧ gt T 0 = l ∧ gt T 5 = w1 ∧ gt T 6 = w2 ∧ gt T 7 = .int .u64 (g2 : Nat) ∧ gt T 8 = .int .i64 (i : Nat) ∧ gt T 9 = .int .i64 (j : Nat) ∧ m2 + j = (subs 6 k).length ∧ g2 ≤ 9000000000000000000 ∧ ((subs 6 k).drop j).foldl (gStep rows is) g2 = dRow rows k g is) ?_ (subs 6 k).length _ ⟨_, 0, g, rfl, rfl, rfl, rfl, rfl, rfl, rfl, rfl, by omega, hg9, rfl⟩
    clear g0 g5 g6 g7 g8 f
    rintro m2 _ ⟨T, j, g2, rfl, hT, g0, g5, g6, g7, g8, g9, hm2, hg29, hf2⟩
    obtain ⟨f, rfl⟩ := ex42 hT
    clear hT
    replace g0 : f 0 = l := g0
    replace g5 : f 5 = w1 := g5
    replace g6 : f 6 = w2 := g6
    replace g7 : f 7 = .int .u64 (g2 : Nat) := g7
    replace g8 : f 8 = .int .i64 (i : Nat) := g8
    replace g9 : f 9 = .int .i64 (j : Nat) := g9
    simp only [g0, g5, g6, g7, g8, g9]
    by_cases hj : j < (subs 6 k).length
    · obtain ⟨qb, gb, ob, cb, xb, b1, b2, b3, jb⟩ := hs2.js hj
      obtain ⟨yv, bv2, nv2⟩ := jb.byVal
      have hmj : (subs 6 k).getD j [] ∈ subs 6 k := by
        rw [List.getD_eq_getElem?_getD, List.getElem?_eq_getElem hj]
        exact List.getElem_mem hj
      rw [fold_step (d := []) hj] at hf2
      generalize hjse : (subs 6 k).getD j [] = js at *
      have d89 := c89 is js hmi hmj ⟨H, []⟩ xv yv xa xb nv1 nv2 bv1 bv2
      have hM := hb is js hmi hmj
      have d107 := fun m => s107 (m := m) hM
      have habs : (absI (minorF (ent rows) is js)).toNat ≤ 9000000000000000000 := by unfold absI; split <;> omega
      have d106 := fun m => s106 (m := m) hg29 habs
      repeat' (first | (refine WO.opE (by intro; simp (disch := omega) only [go_sem]; rfl) (by simp only [pt8, pt1, pt6, pt7]; rfl) ?_) | (refine WO.opE (by intro; exact ev_lenS (by simp only [go_sem]; first | rfl | assumption)) (by simp only [pt8, pt0]; rfl) ?_) | (refine WC.seq ?_) | (refine WC.region ?_) | (refine WO.nil ?_) | (simp only [fl1, fl4]) | (refine WC.drawT ?_) | (refine WT.free rfl (by intro; simp (disch := omega) only [go_sem, a1, a2, a3, b1, b2, b3]; rfl) rfl (by simp only [pt8, pt0, pt1, pt2, pt3, pt4, pt5, pt6, pt7]; rfl) ?_) | (refine WT.big rfl rfl (by intro; simp (disch := omega) only [go_sem, a2, a3, b2, b3]; rfl) (by simp (disch := omega) only [go_sem, touch]; rfl) (by first | exact .inl rfl | exact .inr (apart_nil _) | exact .inr trivial | (right; apply apart_mk; simp only [apartL, List.nil_append, List.cons_append, List.getElem?_cons_succ, List.getElem?_cons_zero, Tch.free, and_true, true_and]; first | done | omega)) (by simp only [pt8, pt1, pt5]; rfl) ?_) | (refine WC.skip ?_) | (refine WC.block ?_) | (refine WC.em2 rfl (fun hp => ?_) (fun hp => ?_) <;> try (exfalso; first | omega | contradiction)))
      refine WT.specG (List.range H.length) rfl rfl (fun j _ => apart_nil _) (fun V hVl hVj => by
        have hVe : V = H := by
          apply List.ext_getElem? 
          intro t
          by_cases ht : t < H.length
          · exact hVj t (List.mem_range.2 ht)
          · rw [List.getElem?_eq_none (by omega), List.getElem?_eq_none (by omega)]
        rw [hVe]
        exact d89) (by simp only [pt8, pt6]; rfl) ?_
      repeat' (first | (refine WO.opE (by intro; simp (disch := omega) only [go_sem]; rfl) (by simp only [pt8, pt1, pt2, pt3]; rfl) ?_) | (refine WT.spec rfl rfl (fun V => d107 ⟨V, []⟩) (by simp only [pt8, pt7]; rfl) ?_) | (refine WT.spec rfl rfl (fun V => d106 ⟨V, []⟩) (by simp only [pt8, pt0]; rfl) ?_) | (refine WC.region ?_) | (refine WO.nil ?_) | (simp only [fl10]) | (refine WT.nil ?_) | (refine WT.free rfl (by intro; simp (disch := omega) only [go_sem]; rfl) rfl (by simp only [pt7]; rfl) ?_))
      exact ⟨m2 - 1, by omega, _, j + 1, _, rfl, rfl, rfl, rfl, rfl, rfl, rfl, rfl, by omega, gcd_bd9 hg29 habs, hf2⟩
    · have hje : j = (subs 6 k).length := by omega
      subst hje
      rw [List.drop_length] at hf2
      have hf3 : g2 = dRow rows k g is := hf2
      repeat' (first | (refine WO.opE (by intro; simp (disch := omega) only [go_sem]; rfl) (by simp only [pt8, pt0, pt1, pt4, pt5, pt6, pt7]; rfl) ?_) | (refine WO.opE (by intro; exact ev_lenS (by simp only [go_sem]; first | rfl | assumption)) (by simp only [pt8, pt0]; rfl) ?_) | (refine WC.seq ?_) | (refine WC.region ?_) | (refine WO.nil ?_) | (simp only [fl1, fl10]) | (refine WC.exit ?_) | (refine WC.em2 rfl (fun hp => ?_) (fun hp => ?_) <;> try (exfalso; first | omega | contradiction)))
      exact ⟨m - 1, by omega, _, i + 1, g2, rfl, rfl, rfl, rfl, rfl, rfl, rfl, by omega, hg29, by rw [hf3]; exact hf⟩
  · have hie : i = (subs rows.length k).length := by omega
    subst hie
    rw [List.drop_length] at hf
    have hf3 : g = divRK rows k := hf
    repeat' (first | (refine WO.opE (by intro; simp (disch := omega) only [go_sem]; rfl) (by simp only [pt8, pt0, pt1, pt3, pt4]; rfl) ?_) | (refine WO.opE (by intro; exact ev_lenS (by simp only [go_sem]; first | rfl | assumption)) (by simp only [pt8, pt2]; rfl) ?_) | (refine WC.seq ?_) | (refine WC.region ?_) | (refine WO.nil ?_) | (simp only [fl1]) | (refine WC.exit ?_) | (refine WC.ret ?_) | (refine WC.em2 rfl (fun hp => ?_) (fun hp => ?_) <;> try (exfalso; first | omega | contradiction)))
    exact ⟨_, rfl, by rw [← hf3]; rfl⟩
end Go.Proofs.Ytnilimjkibimcaa

