import Derived.Test.YtnilimjkibimcaaQf
import Derived.Test.YtnilimjkibimcaaPq
set_option linter.unusedSimpArgs false
set_option linter.unusedVariables false

namespace Go.Proofs.Ytnilimjkibimcaa
open Go.Zz
set_option maxRecDepth 100000
set_option maxHeartbeats 8000000
structure SR (N : Nat) (H : Hp) (v : AV) (L : List (List Nat)) : Prop where
  len : Zz.slen v = some L.length
  at_ : ∀ i, i < L.length → ∃ q g o c x, indexAddrAV 1 v (.int .i64 (i : Nat)) = some (.pref q g o) ∧ N ≤ q ∧ q < H.length ∧ Zz.look H q g = some c ∧ c[o]? = some x ∧ ∀ H' : Hp, H.length ≤ H'.length → (∀ j, N ≤ j → j < H.length → H'[j]? = H[j]?) → JS H' x (L.getD i [])
theorem SR.keep {N : Nat} {H H' : Hp} {v : AV} {L : List (List Nat)} (h : SR N H v L) (hl : H.length ≤ H'.length) (he : ∀ j, N ≤ j → j < H.length → H'[j]? = H[j]?) : SR N H' v L := by
  refine ⟨h.len, fun i hi => ?_⟩
  obtain ⟨q, g, o, c, x, a1, a2, a3, a4, a5, a6⟩ := h.at_ i hi
  exact ⟨q, g, o, c, x, a1, a2, by omega, (look_of_get (he q a2 a3)).trans a4, a5, fun H'' b1 b2 => a6 H'' (by omega) fun j c1 c2 => by rw [b2 j c1 (by omega), he j c1 c2]⟩
theorem SR.of {N : Nat} {H : Hp} {v : AV} {q : Nat} {xs : List AV} {L : List (List Nat)} (h : SS N H v q xs L) : SR N H v L := by
  refine ⟨h.slen, fun i hi => ?_⟩
  obtain ⟨g, a1, a2, a3⟩ := h.at hi
  have hq : N ≤ q ∧ q < H.length := by
    rcases h.fr with rfl | h1
    · simp [indexAddrAV] at a1
    · exact h1
  exact ⟨q, g, i, xs, gt xs i, a1, hq.1, hq.2, a2, a3, fun H' b1 b2 => h.el i hi H' b1 fun j c1 c2 _ => b2 j c1 c2⟩
theorem SR.js {N : Nat} {H : Hp} {v : AV} {L : List (List Nat)} (h : SR N H v L) {i : Nat} (hi : i < L.length) : ∃ q g o c x, indexAddrAV 1 v (.int .i64 (i : Nat)) = some (.pref q g o) ∧ Zz.look H q g = some c ∧ c[o]? = some x ∧ JS H x (L.getD i []) := by
  obtain ⟨q, g, o, c, x, a1, a2, a3, a4, a5, a6⟩ := h.at_ i hi
  exact ⟨q, g, o, c, x, a1, a4, a5, a6 H (Nat.le_refl _) fun _ _ _ => rfl⟩
theorem SR.one {H : Hp} : SR H.length (H ++ [some ⟨0, [.snil]⟩]) (.sref H.length 0 0 1 1 (some 1)) [[]] := by
  refine ⟨rfl, fun i hi => ?_⟩
  have e : i = 0 := by simp at hi; omega
  subst e
  exact ⟨H.length, 0, 0, [.snil], .snil, rfl, Nat.le_refl _, by simp, lk0 rfl, rfl, fun _ _ _ => .inl (.inl ⟨rfl, rfl⟩)⟩
theorem SS.re {N : Nat} {H : Hp} {q : Nat} {xs : List AV} {L : List (List Nat)} (h : SS N H .snil q xs L) (p : Nat) : SS N H .snil p xs L := by
  have hx : xs = [] := by
    rcases h.gs with ⟨_, hx⟩ | ⟨g, hx, _⟩ | ⟨g, n, hx, _⟩
    · exact hx
    · cases hx
    · cases hx
  have hl := h.len
  subst hx
  have : L = [] := List.length_eq_zero_iff.1 (by simpa using hl.symm)
  subst this
  exact SS.nil
theorem ncells_push (l : List Nat) (n : Nat) : ncells l ++ [.int .i64 (n : Int)] = ncells (l ++ [n]) := by simp [ncells]
theorem subs_zero (n : Nat) : subs n 0 = [[]] := by cases n <;> rfl
theorem f105 {E : Env} (hE : E.spec 105 = none) (hF : E.fn 105 = some ir105) {Lo : List (Option ALoop)} : ∀ (n k : Nat) (H : Hp), n ≤ 8 → k ≤ 8 → WF E (.func 105 [] []) [.int .i64 (n : Nat), .int .i64 (k : Nat)] ⟨H, Lo⟩ fun y m' => ∃ H1, m' = ⟨H1, Lo⟩ ∧ Ext H H1 ∧ SR H.length H1 y (subs n k) ∧ (0 < k → ∃ q xs, SS H.length H1 y q xs (subs n k))
  | n, 0, H, hn, hk => by
    refine WF.fnE hE hF (by show 2 ≤ 43; decide) ?_
    unfold ir105; dsimp only [k0, kI, mV, oO, oG]
    simp only [padTo, List.replicate, List.nil_append, List.append_nil]
    repeat' (first | (refine WO.opE (by intro; simp (disch := omega) only [go_sem, fillP, Option.bind_eq_bind, zeros, ov_one0]; rfl) (by simp only [pt8, pt0, pt1, pt2, pt4]; rfl) ?_) | (refine WC.seq ?_) | (refine WC.region ?_) | (refine WO.nil ?_) | (simp only [fl1, fl2]) | (refine WC.yes rfl ?_) | (refine WC.ret ?_))
    refine ⟨_, rfl, _, rfl, Ext.app _ _, ?_, fun h => by omega⟩
    rw [subs_zero]
    exact SR.one
  | 0, k + 1, H, hn, hk => by
    refine WF.fnE hE hF (by show 2 ≤ 43; decide) ?_
    unfold ir105; dsimp only [k0, kI, mV, oO, oG]
    simp only [padTo, List.replicate, List.nil_append, List.append_nil]
    repeat' (first | (refine WO.opE (by intro; simp (disch := omega) only [go_sem]; rfl) (by simp only [pt8, pt0, pt1, pt3, pt4, pt5]; rfl) ?_) | (refine WC.seq ?_) | (refine WC.region ?_) | (refine WO.nil ?_) | (simp only [fl1, fl2]) | (refine WC.no rfl ?_) | (refine WC.skip ?_) | (refine WC.ret ?_) | (refine WC.em2 rfl (fun hp => ?_) (fun hp => ?_) <;> try (exfalso; first | omega | contradiction)))
    exact ⟨_, rfl, H, rfl, Ext.refl H, SR.of (q := 0) SS.nil, fun _ => ⟨0, [], SS.nil⟩⟩
  | n + 1, k + 1, H, hn, hk => by
    refine WF.fnE hE hF (by show 2 ≤ 43; decide) ?_
    unfold ir105; dsimp only [k0, kI, mV, oO, oG]
    simp only [padTo, List.replicate, List.nil_append, List.append_nil]
    by_cases hlt : n < k
    · have e : subs (n + 1) (k + 1) = [] := subs_lt (by omega)
      rw [e]
      repeat' (first | (refine WO.opE (by intro; simp (disch := omega) only [go_sem]; rfl) (by simp only [pt8, pt0, pt1, pt3, pt4, pt5]; rfl) ?_) | (refine WC.seq ?_) | (refine WC.region ?_) | (refine WO.nil ?_) | (simp only [fl1, fl2]) | (refine WC.no rfl ?_) | (refine WC.skip ?_) | (refine WC.ret ?_) | (refine WC.em2 rfl (fun hp => ?_) (fun hp => ?_) <;> try (exfalso; first | omega | contradiction)))
      exact ⟨_, rfl, H, rfl, Ext.refl H, SR.of (q := 0) SS.nil, fun _ => ⟨0, [], SS.nil⟩⟩
    · have hn1 : ((n + 1 : Nat) : Int) - 1 = (n : Nat) := by omega
      have hk1 : ((k + 1 : Nat) : Int) - 1 = (k : Nat) := by omega
      repeat' (first | (refine WO.opE (by intro; simp (disch := omega) only [go_sem, hn1]; rfl) (by simp only [pt8, pt0, pt1, pt3, pt4, pt5, pt6, pt7]; rfl) ?_) | (refine WC.seq ?_) | (refine WC.region ?_) | (refine WO.nil ?_) | (simp only [fl1]) | (refine WC.no rfl ?_) | (refine WC.skip ?_) | (refine WC.em2 rfl (fun hp => ?_) (fun hp => ?_) <;> try (exfalso; first | omega | contradiction)))
      refine WO.call rfl rfl ((f105 hE hF n (k + 1) H (by omega) hk).mono ?_)
      rintro v0 m' ⟨H1, rfl, he1, _, hs1⟩
      obtain ⟨q0, xs0, hs1⟩ := hs1 (by omega)
      simp only [pt8, pt1]
      repeat' (first | (refine WO.opE (by intro; simp (disch := omega) only [go_sem, hn1, hk1]; rfl) (by simp only [pt8, pt2, pt3, pt4, pt5]; rfl) ?_) | (refine WC.seq ?_) | (refine WC.region ?_) | (refine WO.nil ?_) | (simp only [fl1]))
      refine WO.call rfl rfl ((f105 hE hF n k H1 (by omega) (by omega)).mono ?_)
      rintro w m' ⟨H2, rfl, he2, hs2, _⟩
      simp only [pt8, pt6]
      have hwl := hs2.len
      repeat' (first | (refine WO.opE (by intro; simp (disch := omega) only [go_sem]; rfl) (by simp only [pt6, pt7]; rfl) ?_) | (refine WC.seq ?_) | (refine WC.region ?_) | (refine WO.nil ?_) | (simp only [fl1]) | (refine WC.block ?_))
      have hc1 := subs_count n (k + 1)
      have hc2 := subs_count n k
      have hp8 : 2 ^ n ≤ 256 := Nat.pow_le_pow_right (n := 2) (by decide) (show n ≤ 8 by omega)
      have hEx : Ext H H2 := he1.trans he2
      have hst : ∃ q, SS H.length H2 v0 q xs0 (subs n (k + 1)) ∧ (q < H1.length ∨ H2.length ≤ q) := by
        have h1 := hs1.keep (H' := H2) he2.1 fun j _ hj => he2.2 j hj
        rcases hs1.fr with rfl | h2
        · exact ⟨H2.length, h1.re _, .inr (Nat.le_refl _)⟩
        · exact ⟨q0, h1, .inl h2.2⟩
      obtain ⟨q, hss, hqq⟩ := hst
      have l1 := he1.1
      have l2 := he2.1
      refine WC.loopI (fun m s => ∃ T G i v q xs, s = ⟨T, G, Lo⟩ ∧ T.length = 43 ∧ gt T 0 = .int .i64 ((n + 1 : Nat) : Int) ∧ gt T 5 = v ∧ gt T 6 = w ∧ gt T 7 = .int .i64 (i : Nat) ∧ m + i = (subs n k).length ∧ Ext H G ∧ SS H.length G v q xs (subs n (k + 1) ++ ((subs n k).take i).map (· ++ [n])) ∧ (q < H1.length ∨ H2.length ≤ q) ∧ H2.length ≤ G.length ∧ ∀ j, H1.length ≤ j → j < H2.length → G[j]? = H2[j]?) ?_ (subs n k).length _ ⟨_, H2, 0, v0, q, xs0, rfl, rfl, rfl, rfl, rfl, rfl, by omega, hEx, by simpa using hss, hqq, Nat.le_refl _, fun _ _ _ => rfl⟩
      clear hss hqq hs1 hEx q xs0
      rintro m _ ⟨T, G, i, v, q, xs, rfl, hT, g0, g5, g6, g7, hm, hEx, hss, hqq, hGl, hGk⟩
      obtain ⟨f, rfl⟩ := ex43 hT
      clear hT
      replace g0 : f 0 = .int .i64 ((n + 1 : Nat) : Int) := g0
      replace g5 : f 5 = v := g5
      replace g6 : f 6 = w := g6
      replace g7 : f 7 = .int .i64 (i : Nat) := g7
      simp only [g0, g5, g6, g7]
      by_cases hi : i < (subs n k).length
      · have hsw := hs2.keep hGl hGk
        obtain ⟨qw, gw, o, c, x, w1, w2, w3, hjs⟩ := hsw.js hi
        have hwlt := look_lt w2
        have hlk : ((subs n k).getD i []).length = k := by
          have : (subs n k).getD i [] ∈ subs n k := by
            rw [List.getD_eq_getElem?_getD, List.getElem?_eq_getElem hi]
            exact List.getElem_mem hi
          exact (subs_mem.1 this).2
        obtain ⟨v1, q1, G1, b1, g1, x1, f1⟩ := copyGS (L := Lo) hjs (by omega)
        obtain ⟨v2, q2, G2, b2, g2, f2, x2, f3⟩ := (g1.more [some ⟨0, [.int .i64 (n : Int)]⟩]).append (L := Lo) (bytes := 8) (n := 1) (cap := some 1) (id := G1.length) (lk0 rfl) rfl Nat.one_pos (by decide) ⟨by rw [Nat.div_one, ncells_len]; omega, by rw [Nat.div_one, ncells_len]; omega⟩
        rw [ncells_push] at g2
        rw [List.length_append, List.length_singleton] at f2 x2 f3
        have y1 := x1.1
        have hE2 : ∀ j, j < G.length → G2[j]? = G[j]? := fun j hj => by
          rw [f3 j (by omega) (by omega), List.getElem?_append_left (by omega), x1.2 j hj]
        have hq2l : q2 < G2.length := by
          obtain ⟨_, _, _, _, _, h⟩ := g2.ref (by intro e; have := congrArg List.length e; rw [ncells_len] at this; simp at this)
          exact h
        have hss2 := hss.keep (H' := G2) (by omega) fun j _ hj => hE2 j hj
        have hxl := hss.len
        rw [List.length_append, List.length_map, List.length_take] at hxl
        have hEl := hEx.1
        obtain ⟨v', q', G', b3, hss3, y3, f4, f5⟩ := hss2.push (Lo := Lo) (v2 := v2) (q2 := q2) g2 (by omega) hq2l (by
          rcases hss.fr with h | h
          · exact .inl h
          · exact .inr (by omega)) (by omega) (by omega)
        have hrc : v2.cells = some [v2] := by
          rcases g2 with ⟨rfl, _⟩ | ⟨g, rfl, _⟩ | ⟨g, nn, rfl, _⟩ <;> rfl
        unfold AV.cells at hrc
        repeat' (first | (refine WO.opE (by intro; simp (disch := omega) only [go_sem, fillP, Option.bind_eq_bind, zeros, ov_one0, hn1, w1, w2, w3, look_left, hrc]; rfl) (by simp only [pt8, pt0, pt1, pt2, pt3, pt4, pt5, pt6, pt7]; rfl) ?_) | (refine WO.opE (by intro; exact ev_lenS (by simp only [go_sem]; first | rfl | assumption)) (by simp only [pt8, pt1]; rfl) ?_) | (refine WO.opE (by intro; rw [ev_append]; exact b1) (by simp only [pt8, pt3]; rfl) ?_) | (refine WO.opE (by intro; rw [ev_append]; exact b2) (by simp only [pt8, pt7]; rfl) ?_) | (refine WO.opE (by intro; rw [ev_append]; exact b3) (by simp only [pt8, pt1]; rfl) ?_) | (refine WC.seq ?_) | (refine WC.region ?_) | (refine WO.nil ?_) | (simp only [fl1, fl10]) | (refine WC.skip ?_) | (refine WC.block ?_) | (refine WC.em2 rfl (fun hp => ?_) (fun hp => ?_) <;> try (exfalso; first | omega | contradiction)))
        have htk : (subs n (k + 1) ++ ((subs n k).take i).map (· ++ [n])) ++ [(subs n k).getD i [] ++ [n]] = subs n (k + 1) ++ ((subs n k).take (i + 1)).map (· ++ [n]) := by
          have e1 : (subs n k).take (i + 1) = (subs n k).take i ++ [(subs n k).getD i []] := by
            rw [List.take_add_one, List.getD_eq_getElem?_getD, List.getElem?_eq_getElem hi]
            rfl
          rw [e1, List.map_append, List.append_assoc]
          rfl
        rw [htk] at hss3
        have hqne : ∀ j, j < G.length → (j < H.length ∨ H1.length ≤ j ∧ j < H2.length) → v = .snil ∨ j ≠ q := fun j hj h => by
          rcases hss.fr with h1 | h1
          · exact .inl h1
          · exact .inr (by omega)
        exact ⟨m - 1, by omega, _, G', i + 1, v', q', xs ++ [v2], rfl, rfl, rfl, rfl, rfl, rfl, by omega, ⟨by omega, fun j hj => by rw [f4 j (by omega) (hqne j (by omega) (.inl hj)), hE2 j (by omega), hEx.2 j hj]⟩, hss3, by
          rcases f5 with ⟨_, rfl⟩ | h
          · exact hqq
          · exact .inr (by omega), by omega, fun j h1 h2 => by rw [f4 j (by omega) (hqne j (by omega) (.inr ⟨h1, h2⟩)), hE2 j (by omega), hGk j h1 h2]⟩
      · have hie : i = (subs n k).length := by omega
        subst hie
        repeat' (first | (refine WO.opE (by intro; simp (disch := omega) only [go_sem]; rfl) (by simp only [pt8, pt0, pt2, pt4, pt7]; rfl) ?_) | (refine WO.opE (by intro; exact ev_lenS (by simp only [go_sem]; first | rfl | assumption)) (by simp only [pt8, pt1]; rfl) ?_) | (refine WC.seq ?_) | (refine WC.region ?_) | (refine WO.nil ?_) | (simp only [fl1]) | (refine WC.exit ?_) | (refine WC.ret ?_) | (refine WC.em2 rfl (fun hp => ?_) (fun hp => ?_) <;> try (exfalso; first | omega | contradiction)))
        have e : subs (n + 1) (k + 1) = subs n (k + 1) ++ (subs n k).map (· ++ [n]) := rfl
        rw [List.take_length] at hss
        exact ⟨_, rfl, G, rfl, hEx, by rw [e]; exact SR.of hss, fun _ => ⟨q, xs, by rw [e]; exact hss⟩⟩
end Go.Proofs.Ytnilimjkibimcaa

