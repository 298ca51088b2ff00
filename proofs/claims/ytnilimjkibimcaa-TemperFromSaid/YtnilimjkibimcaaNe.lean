import Derived.Test.YtnilimjkibimcaaNA
set_option linter.unusedSimpArgs false
set_option linter.unusedVariables false

namespace Go.Proofs.Ytnilimjkibimcaa
open Go.Zz
set_option maxRecDepth 100000
set_option maxHeartbeats 8000000
def IX (G : Hp) (N7 : Nat) (x : AV) (r : List Int) : Prop := (x = .snil ∧ r = []) ∨ ∃ b, 3 ≤ b ∧ b ≠ N7 ∧ b < G.length ∧ RowM G x b r
theorem IX.im {G : Hp} {N7 : Nat} {x : AV} {r : List Int} (h : IX G N7 x r) (hG : 0 < G.length) : ∃ b, b < G.length ∧ IM G x b r := by
  rcases h with h | ⟨b, _, _, h1, h2⟩
  · exact ⟨0, hG, .inl h⟩
  · exact ⟨b, h1, .inr h2⟩
theorem IX.of_gs {G : Hp} {N7 q : Nat} {v : AV} {r : List Int} (h : GS 1 G v q (icells r)) (h3 : 3 ≤ q) (h7 : q ≠ N7) : IX G N7 v r := by
  by_cases hr : 0 < r.length
  · have := RowM.of_gs h hr
    exact .inr ⟨q, h3, h7, this.lt, this⟩
  · have hr0 : r = [] := List.length_eq_zero_iff.1 (by omega)
    subst hr0
    rcases h with ⟨rfl, _⟩ | ⟨g, rfl, _, h2⟩ | ⟨g, n, _, h1, h2, _⟩
    · exact .inl ⟨rfl, rfl⟩
    · exact .inr ⟨q, h3, h7, look_lt h2, g, 0, some 0, [], rfl, h2, by simp, rfl, .inr rfl⟩
    · simp [icells] at h1; omega
structure KM (G : Hp) (fr fc tc : List AV) (rows : List (List Int)) (S : Fr) (N7 k : Nat) : Prop where
  k0 : Zz.look G 0 0 = some fr
  k1 : Zz.look G 1 0 = some fc
  k2 : Zz.look G 2 0 = some tc
  tl : tc.length = S.js.length
  tn : ∀ t, k ≤ t → t < S.js.length → tc.getD t und = .snil
  td : ∀ t, t < k → IX G N7 (tc.getD t und) (tabF rows S t)
theorem KM.keep {G G' : Hp} {fr fc tc : List AV} {rows : List (List Int)} {S : Fr} {N7 k : Nat} (h : KM G fr fc tc rows S N7 k) (hN : 3 ≤ N7) (hl : G.length ≤ G'.length) (hk : ∀ b, b < G.length → b ≠ N7 → G'[b]? = G[b]?) : KM G' fr fc tc rows S N7 k := by
  refine ⟨(look_of_get (hk 0 (look_lt h.k0) (by omega))).trans h.k0, (look_of_get (hk 1 (look_lt h.k1) (by omega))).trans h.k1, (look_of_get (hk 2 (look_lt h.k2) (by omega))).trans h.k2, h.tl, h.tn, fun t ht => ?_⟩
  rcases h.td t ht with h | ⟨b, h1, h2, h3, h4⟩
  · exact .inl h
  · exact .inr ⟨b, h1, h2, by omega, h4.same (hk b h3 h2)⟩
theorem zeros_nil (n : Nat) : zeros [AV.snil] n = List.replicate n .snil := by
  induction n with
  | zero => rfl
  | succ n ih => rw [zeros, ih]; rfl
theorem mk_tab {call : AV → List AV → Mem → Option (AV × Mem)} {T : List AV} {G : Hp} {L : List (Option ALoop)} {n : Nat} {l c : Opd} (hn : n ≤ 8) (h1 : l.ev T = .int .i64 (n : Int)) (h2 : c.ev T = .int .i64 (n : Int)) :
    evOp call T ⟨G, L⟩ (.makeSlice 1 24 [.snil] l c) = some (.sref G.length 0 0 1 n (some n), ⟨G ++ [some ⟨0, List.replicate n .snil⟩], L⟩) := by
  rw [ev_makeSlice, h1, h2]
  show (if _ then _ else _) = _
  rw [if_pos ⟨by omega, by omega, by omega, by omega⟩, ← zeros_nil]
  rfl
theorem ncells_of_take {c : List AV} {l : List Nat} {k : Nat} (h : c.take k = ncells l) (hk : k = l.length) {n : Nat} (hn : n < l.length) : c[n]? = some (.int .i64 ((l.getD n 0 : Nat) : Int)) := by
  have := congrArg (fun l => l[n]?) h
  simp only [List.getElem?_take, if_pos (show n < k by omega)] at this
  rw [this, ncells_get hn]
theorem f30 {l : AV} {rows : List (List Int)} (hl : RwL l rows) (hv : VM rows) : WF E19 (.func 30 [] []) [l] ⟨[], []⟩ fun y m' => ∃ v q, y = .tuple [v, .int .i64 0] ∧ GS 6 m'.heap v q (flatR (kerF rows)) := by
  have hr8 := hv.1
  have hlen := hl.len
  have c25 := fun m => s25 (m := m) hl (by omega)
  rw [decide_eq_true hv] at c25
  obtain ⟨ov, hov, c95⟩ := s95
  obtain ⟨hok, iv, jv, hiv, hjv, c82⟩ := s82 hl hv hov okJ_bwd (by decide)
  have hF : frame rows [5, 4, 3, 2, 1, 0] ([5, 4, 3, 2, 1, 0] : List Nat).length = bwdF rows := rfl
  rw [hF] at hok hiv hjv c82
  have hB := hok.toB hv (fun i hi => hl.six hi) okJ_bwd (by decide)
  clear hok hF
  have hker : kerF rows = (kerX rows (bwdF rows) (bwdF rows).js.length).map (kerR rows (bwdF rows)) := rfl
  generalize bwdF rows = S at *
  obtain ⟨hd0, hd9⟩ := hB.abs
  have hn6 := hB.six
  have hjl := hjv.len
  have hil6 := hB.len
  have hs6 := free_len S.js
  have hbd := hB.bd
  have c81 := fun m => s81 (m := m) (x := S.d) (by omega)
  have hlc := hl.cells
  have hic := hiv.cells
  have hjc := hjv.cells
  unfold AV.cells at hlc hic hjc
  have c83 := fun m => s83r (m := m)
  refine WF.fnE rfl (fn_of Try.func30 cir30) (by show 1 ≤ 138; decide) ?_
  unfold ir30; dsimp only [k0, kI, mV, oO, oG]
  simp only [padTo, List.replicate, List.nil_append, List.append_nil]
  repeat' (first | (refine WO.opE (by intro; simp (disch := omega) only [go_sem]; rfl) (by simp only [pt8, pt2, pt3, pt4, pt6, pt7]; rfl) ?_) | (refine WO.opN (by intro; simp (disch := omega) only [go_sem, Zz.look, Option.bind_eq_bind, ov_all4, Nat.reduceAdd]; rfl) ?_) | (refine WO.specE rfl rfl (c25 _) (by simp only [pt8, pt4, pt5]; rfl) ?_) | (refine WO.specE rfl rfl (c95 _) (by simp only [pt8, pt0, pt4]; rfl) ?_) | (refine WO.specE rfl rfl (c82 _) (by simp only [pt8, pt1, pt4]; rfl) ?_) | (refine WO.specE rfl rfl (c83 _) (by simp only [pt8, pt2, pt4]; rfl) ?_) | (refine WC.seq ?_) | (refine WC.region ?_) | (refine WO.nil ?_) | (simp only [fl1]) | (refine WC.no rfl ?_) | (refine WC.skip ?_))
  refine WO.call rfl rfl ((f96 (fv := .func 97 [] [.pref 0 0 0]) (p := fun v => decide (v ∈ S.js)) (b := 1) (g := 0) (l := [0, 1, 2, 3, 4, 5]) (by decide) rfl rfl (fun G hG v => f97 (l := l) (iv := iv) (d := S.d) hjv (by omega) v ((look_of_get (hG 0 (by decide))).trans rfl))).mono ?_)
  rintro y m' ⟨G0, fc, rfl, rfl, k1, hfl, hft, hG0l, hG0k⟩
  simp only [pt8, pt4]
  have hfr : ([0, 1, 2, 3, 4, 5].filter fun v => !decide (v ∈ S.js)) = freeF S.js := rfl
  rw [hfr] at hft ⊢
  have k0 : Zz.look G0 0 0 = some [l, iv, jv, .int .i64 S.d] := (look_of_get (hG0k 0 (by decide))).trans rfl
  have hG0l' : G0.length = 2 := hG0l
  clear hG0k hfr hG0l
  have hfc : ∀ n, n < (freeF S.js).length → fc[n]? = some (.int .i64 (((freeF S.js).getD n 0 : Nat) : Int)) := fun n hn => ncells_of_take hft rfl hn
  repeat' (first | (refine WO.opE (by intro; simp (disch := omega) only [go_sem, Nat.reduceAdd, k0, hG0l']; rfl) (by simp only [pt8, pt1, pt2, pt5, pt6]; rfl) ?_) | (refine WO.opE (by intro; exact ev_lenS (by simp only [go_sem]; first | rfl | assumption)) (by simp only [pt8, pt7]; rfl) ?_) | (refine WO.opE (by intro; exact mk_tab (by omega) rfl rfl) (by simp only [pt8, pt0]; rfl) ?_) | (refine WC.seq ?_) | (refine WC.region ?_) | (refine WO.nil ?_) | (simp only [fl1]))
  refine WO.call rfl rfl ((f84 (E := E19) rfl (fn_of Try.func84 cir84) (n := (freeF S.js).length) (d := 1) (by omega)).mono ?_)
  rintro _ m' ⟨rv0, q0, xs0, bs0, H1, rfl, rfl, hlat0, hext, hbs0, hq0, hqH0⟩
  simp only [pt8, pt3]
  have hrc0 : rv0.cells = some [rv0] := by
    rcases hlat0.gs with ⟨rfl, _⟩ | ⟨g, rfl, _⟩ | ⟨g, n, rfl, _⟩ <;> rfl
  unfold AV.cells at hrc0
  have k0' : Zz.look H1 0 0 = some [l, iv, jv, .int .i64 S.d] := hext.look ((look_left (look_lt k0)).trans k0)
  have k1' : Zz.look H1 1 0 = some fc := hext.look ((look_left (look_lt k1)).trans k1)
  have k2' : Zz.look H1 2 0 = some (List.replicate S.js.length .snil) := by
    refine hext.look ?_
    have : (2 : Nat) = G0.length := by omega
    rw [this]
    exact lk0 rfl
  have hH1 : 3 ≤ H1.length := by have := hext.1; simp at this; omega
  have hq03 : 3 ≤ q0 := by simp at hq0; omega
  have hbs03 : ∀ b ∈ bs0, 3 ≤ b := fun b hb => by have := hbs0 b hb; simp at this; omega
  repeat' (first | (refine WO.opE (by intro; simp (disch := omega) only [go_sem, Nat.reduceAdd, k0', look_left]; rfl) (by simp only [pt8, pt4, pt5, pt7]; rfl) ?_) | (refine WO.opN (by intro; simp (disch := omega) only [go_sem, Option.bind_eq_bind, app_s0, ov_all2, Nat.reduceAdd, lk0]; rfl) ?_) | (refine WO.opE (by intro; exact ev_lenS (by simp only [go_sem]; first | rfl | assumption)) (by simp only [pt8, pt6]; rfl) ?_) | (refine WC.seq ?_) | (refine WC.region ?_) | (refine WO.nil ?_) | (simp only [fl1]) | (refine WC.block ?_))
  obtain ⟨N7, hN7⟩ : ∃ N7, N7 = H1.length := ⟨_, rfl⟩
  have hKM0 : KM (H1 ++ [some ⟨0, [.int .i64 1, rv0]⟩]) [l, iv, jv, .int .i64 S.d] fc (List.replicate S.js.length .snil) rows S N7 0 :=
    ⟨(look_left (by omega)).trans k0', (look_left (by omega)).trans k1', (look_left (by omega)).trans k2', List.length_replicate, fun t _ ht => by simp [List.getD_eq_getElem?_getD, ht], fun t ht => by omega⟩
  have hlat1 : LatM (H1 ++ [some ⟨0, [.int .i64 1, rv0]⟩]) rv0 q0 xs0 bs0 (kerX rows S 0) := hlat0.keep (List.getElem?_append_left hqH0) fun b hb => List.getElem?_append_left (hlat0.blt hb)
  have k7' : Zz.look (H1 ++ [some ⟨0, [.int .i64 1, rv0]⟩]) N7 0 = some [.int .i64 1, rv0] := by rw [hN7]; exact lk0 rfl
  refine WC.loopI (fun m st => ∃ T G tc dl rv q xs bs k, st = ⟨T, G, []⟩ ∧ T.length = 138 ∧ gt T 4 = .pref 0 0 0 ∧ gt T 5 = .sref 1 0 0 1 (freeF S.js).length (some 6) ∧ gt T 6 = .sref 2 0 0 1 S.js.length (some S.js.length) ∧ gt T 7 = .pref N7 0 0 ∧ gt T 37 = jv ∧ gt T 38 = .int .i64 (S.js.length : Nat) ∧ gt T 39 = .int .i64 (k : Nat) ∧ m + k = S.js.length ∧ KM G [l, iv, jv, .int .i64 S.d] fc tc rows S N7 k ∧ Zz.look G N7 0 = some [.int .i64 dl, rv] ∧ LatM G rv q xs bs (kerX rows S k) ∧ q < G.length ∧ 3 ≤ q ∧ ∀ b ∈ bs, 3 ≤ b) ?_ S.js.length _ ⟨_, _, _, 1, rv0, q0, xs0, bs0, 0, rfl, rfl, rfl, rfl, by first | rfl | (rw [hG0l']; rfl), by rw [hN7]; rfl, rfl, rfl, rfl, by omega, hKM0, k7', hlat1, by rw [List.length_append]; omega, hq03, hbs03⟩
  have hN3 : 3 ≤ N7 := by omega
  clear hKM0 hlat1 k7' hlat0 k0' k1' k2' hext hbs0 hq0 hqH0 hrc0 hH1 hN7 k0 k1 hG0l' hbs03 hq03
  rintro m _ ⟨T, G, tc, dl, rv, q, xs, bs, k, rfl, hT, g4, g5, g6, g7, g37, g38, g39, hm, hKM, k7, hlat, hqG, hq3, hbs3⟩
  obtain ⟨f, rfl⟩ := ex138 hT
  clear hT
  replace g4 : f 4 = .pref 0 0 0 := g4
  replace g5 : f 5 = .sref 1 0 0 1 (freeF S.js).length (some 6) := g5
  replace g6 : f 6 = .sref 2 0 0 1 S.js.length (some S.js.length) := g6
  replace g7 : f 7 = .pref N7 0 0 := g7
  replace g37 : f 37 = jv := g37
  replace g38 : f 38 = .int .i64 (S.js.length : Nat) := g38
  replace g39 : f 39 = .int .i64 (k : Nat) := g39
  simp only [g4, g5, g6, g7, g37, g38, g39]
  have k0 := hKM.k0
  have k1 := hKM.k1
  have hXB := kerX_LB hB k
  by_cases hk : k < S.js.length
  · have htn := hKM.tn k (Nat.le_refl _) hk
    have htl := hKM.tl
    have hgs0 : GS 1 G (tc.getD k und) G.length (icells ((tabF rows S k).take 0)) := by rw [htn]; exact .inl ⟨rfl, rfl⟩
    have hix2 : indexAddrAV 1 (.sref 2 0 0 1 S.js.length (some S.js.length)) (.int .i64 (k : Int)) = some (.pref 2 0 k) := by rw [ia_sref, idx_nat hk]; simp
    have htab := tab_len rows S k
    have h7l := look_lt k7
    repeat' (first | (refine WO.opE (by intro; simp (disch := omega) only [go_sem]; rfl) (by simp only [pt8, pt0, pt1, pt2, pt4]; rfl) ?_) | (refine WO.opE (by intro; exact ev_lenS (by simp only [go_sem]; first | rfl | assumption)) (by simp only [pt8, pt3]; rfl) ?_) | (refine WC.seq ?_) | (refine WC.region ?_) | (refine WO.nil ?_) | (simp only [fl1]) | (refine WC.skip ?_) | (refine WC.block ?_) | (refine WC.em2 rfl (fun hp => ?_) (fun hp => ?_) <;> try (exfalso; first | omega | contradiction)))
    refine WC.loopI (fun m2 st => ∃ T G2 v q2 n, st = ⟨T, G2, []⟩ ∧ T.length = 138 ∧ gt T 4 = .pref 0 0 0 ∧ gt T 5 = .sref 1 0 0 1 (freeF S.js).length (some 6) ∧ gt T 6 = .sref 2 0 0 1 S.js.length (some S.js.length) ∧ gt T 7 = .pref N7 0 0 ∧ gt T 8 = .int .i64 (k : Nat) ∧ gt T 37 = jv ∧ gt T 38 = .int .i64 (S.js.length : Nat) ∧ gt T 39 = .int .i64 (k : Nat) ∧ gt T 42 = .sref 1 0 0 1 (freeF S.js).length (some 6) ∧ gt T 43 = .int .i64 ((freeF S.js).length : Nat) ∧ gt T 44 = .int .i64 (n : Nat) ∧ m2 + n = (freeF S.js).length ∧ G.length ≤ G2.length ∧ GS 1 G2 v q2 (icells ((tabF rows S k).take n)) ∧ G.length ≤ q2 ∧ Zz.look G2 2 0 = some (tc.set k v) ∧ ∀ b, b < G.length → b ≠ 2 → G2[b]? = G[b]?) ?_ (freeF S.js).length _ ⟨_, G, tc.getD k und, G.length, 0, rfl, rfl, rfl, rfl, rfl, rfl, rfl, rfl, rfl, rfl, rfl, rfl, rfl, by omega, Nat.le_refl _, hgs0, Nat.le_refl _, by
      have e : tc.set k (tc.getD k und) = tc := by
        apply List.ext_getElem (by simp)
        intro i h1 h2
        by_cases e : k = i
        · subst e; rw [List.getElem_set_self]; simp [List.getD_eq_getElem?_getD, h2]
        · rw [List.getElem_set_ne e]
      rw [e]; exact hKM.k2, fun b _ _ => rfl⟩
    clear g4 g5 g6 g7 g37 g38 g39 f hgs0
    rintro m2 _ ⟨T, G2, v, q2, n, rfl, hT, g4, g5, g6, g7, g8, g37, g38, g39, g42, g43, g44, hm2, hG2, hgs, hq2, k22, hkp⟩
    obtain ⟨f, rfl⟩ := ex138 hT
    clear hT
    replace g4 : f 4 = .pref 0 0 0 := g4
    replace g5 : f 5 = .sref 1 0 0 1 (freeF S.js).length (some 6) := g5
    replace g6 : f 6 = .sref 2 0 0 1 S.js.length (some S.js.length) := g6
    replace g7 : f 7 = .pref N7 0 0 := g7
    replace g8 : f 8 = .int .i64 (k : Nat) := g8
    replace g37 : f 37 = jv := g37
    replace g38 : f 38 = .int .i64 (S.js.length : Nat) := g38
    replace g39 : f 39 = .int .i64 (k : Nat) := g39
    replace g42 : f 42 = .sref 1 0 0 1 (freeF S.js).length (some 6) := g42
    replace g43 : f 43 = .int .i64 ((freeF S.js).length : Nat) := g43
    replace g44 : f 44 = .int .i64 (n : Nat) := g44
    simp only [g4, g5, g6, g7, g8, g37, g38, g39, g42, g43, g44]
    have k02 : Zz.look G2 0 0 = some [l, iv, jv, .int .i64 S.d] := (look_of_get (hkp 0 (look_lt k0) (by omega))).trans k0
    have k12 : Zz.look G2 1 0 = some fc := (look_of_get (hkp 1 (look_lt k1) (by omega))).trans k1
    have htg : (tc.set k v)[k]? = some v := by rw [List.getElem?_set_self (by omega)]
    have hvc : v.cells = some [v] := by
      rcases hgs with ⟨rfl, _⟩ | ⟨g, rfl, _⟩ | ⟨g, n, rfl, _⟩ <;> rfl
    unfold AV.cells at hvc
    have l22 := look_lt k22
    by_cases hn : n < (freeF S.js).length
    · have hfn := hfc n hn
      have hixn : indexAddrAV 1 (.sref 1 0 0 1 (freeF S.js).length (some 6)) (.int .i64 (n : Int)) = some (.pref 1 0 n) := by rw [ia_sref, idx_nat hn]; simp
      have hj6 := (free_mem.1 (getD_mem hn)).1
      have c87 := fun m => s87 (m := m) (d := S.d) (k := k) (j := (freeF S.js).getD n 0) hl hv hiv hjv hB.i hB.nd hB.j (by omega) hn6 hk hj6
      rw [← tab_at hn] at c87
      have htb := tab_bd hB hv (fun i hi => hl.six hi) hk hn
      have hts : (tabF rows S k).take n ++ [(tabF rows S k).getD n 0] = (tabF rows S k).take (n + 1) := by
        rw [List.take_add_one, List.getD_eq_getElem?_getD, List.getElem?_eq_getElem (by omega)]
        rfl
      obtain ⟨v', q', H2, a1, a2, a3, a4, a5⟩ := intPush (L := []) hgs (by rw [List.length_take]; omega) ((tabF rows S k).getD n 0) [some ⟨0, [.int .i64 ((tabF rows S k).getD n 0)]⟩] (lk0 rfl)
      rw [hts] at a2
      simp only [List.length_cons, List.length_nil, Nat.zero_add] at a3 a4 a5
      have k23 : Zz.look H2 2 0 = some (tc.set k v) := (look_of_get ((a5 2 (by omega) (by have := look_lt hKM.k2; omega)).trans (List.getElem?_append_left l22))).trans k22
      have hov := over_one (c := tc.set k v) (k := k) (x := v') (by simp; omega)
      rw [List.set_set] at hov
      have hvc' : v'.cells = some [v'] := by
        rcases a2 with ⟨rfl, _⟩ | ⟨g, rfl, _⟩ | ⟨g, n, rfl, _⟩ <;> rfl
      unfold AV.cells at hvc'
      have l23 := look_lt k23
      have h2G := look_lt hKM.k2
      repeat' (first | (refine WO.opE (by intro; simp (disch := omega) only [go_sem, hixn, hfn, k12]; rfl) (by simp only [pt8, pt2, pt5, pt6, pt7]; rfl) ?_) | (refine WT.spec rfl rfl (fun V => c87 _) (by simp only [pt8, pt1]; rfl) ?_) | (refine WC.seq ?_) | (refine WC.region ?_) | (refine WO.nil ?_) | (simp only [fl1, fl4]) | (refine WC.drawT ?_) | (refine WT.free rfl (by intro; simp (disch := omega) only [go_sem, fillP, Option.bind_eq_bind, zeros, ov_one0, k02, hix2, k22, htg, cut4z]; rfl) rfl (by simp only [pt8, pt0, pt1, pt2, pt3, pt4, pt5, pt6, pt7]; rfl) ?_) | (refine WT.big rfl rfl (by intro; simp (disch := omega) only [go_sem, fillP, Option.bind_eq_bind, zeros, ov_one0, k02, k22, htg, cut4z]; rfl) (by simp (disch := omega) only [go_sem, touch]; rfl) (by first | exact .inl rfl | exact .inr (apart_nil _) | exact .inr trivial | (right; apply apart_mk; simp only [apartL, List.nil_append, List.cons_append, List.getElem?_cons_succ, List.getElem?_cons_zero, Tch.free, and_true, true_and]; first | done | omega)) (by simp only [pt8, pt2, pt5, pt6]; rfl) ?_) | (refine WC.skip ?_) | (refine WC.block ?_) | (refine WC.em2 rfl (fun hp => ?_) (fun hp => ?_) <;> try (exfalso; first | omega | contradiction)))
      refine WT.append (sv := v) (xv := .sref G2.length 0 0 1 1 (some 1)) rfl rfl a1 (apart_nil _) (apart_nil _) (by simp only [pt8, pt3]; rfl) ?_
      repeat' (first | (refine WO.opE (by intro; simp (disch := omega) only [go_sem]; rfl) (by simp only [pt8, pt4, pt5]; rfl) ?_) | (refine WC.region ?_) | (refine WO.nil ?_) | (simp only [fl10]) | (refine WT.nil ?_) | (refine WT.free rfl (by intro; simp (disch := omega) only [go_sem, hix2]; rfl) rfl (by simp only [pt8, pt4]; rfl) ?_) | (refine WT.bigN rfl rfl (by intro; simp (disch := omega) only [go_sem, Option.bind_eq_bind, k23, hov, hvc']; rfl) (by simp (disch := omega) only [go_sem, touch]; rfl) (by first | exact .inl rfl | exact .inr (apart_nil _) | exact .inr trivial | (right; apply apart_mk; simp only [apartL, List.nil_append, List.cons_append, List.getElem?_cons_succ, List.getElem?_cons_zero, Tch.free, and_true, true_and]; first | done | omega)) ?_))
      exact ⟨m2 - 1, by omega, _, H2.set 2 (some ⟨0, tc.set k v'⟩), v', q', n + 1, rfl, rfl, rfl, rfl, rfl, rfl, rfl, rfl, rfl, rfl, rfl, rfl, rfl, by omega, by rw [List.length_set]; omega, by
        rcases a2 with h | ⟨g, h1, h2, h3⟩ | ⟨g, n, h1, h2, h3, h4⟩
        · exact .inl h
        · exact .inr (.inl ⟨g, h1, h2, (look_of_get (List.getElem?_set_ne (by omega))).trans h3⟩)
        · exact .inr (.inr ⟨g, n, h1, h2, h3, (look_of_get (List.getElem?_set_ne (by omega))).trans h4⟩), by omega, look_set l23, fun b hb hb2 => by
        rw [List.getElem?_set_ne (Ne.symm hb2), a5 b (by omega) (by omega), List.getElem?_append_left (by omega), hkp b hb hb2]⟩
    · have hne : n = (freeF S.js).length := by omega
      subst hne
      rw [List.take_of_length_le (by omega)] at hgs
      have k72 : Zz.look G2 N7 0 = some [.int .i64 dl, rv] := (look_of_get (hkp N7 h7l (by omega))).trans k7
      have hlat2 : LatM G2 rv q xs bs (kerX rows S k) := hlat.keep (hkp q hqG (by omega)) fun b hb => hkp b (hlat.blt hb) (by have := hbs3 b hb; omega)
      have hIX : IX G2 N7 v (tabF rows S k) := IX.of_gs hgs (by have := look_lt hKM.k2; omega) (by omega)
      have hKM2 : KM G2 [l, iv, jv, .int .i64 S.d] fc (tc.set k v) rows S N7 (k + 1) := by
        refine ⟨k02, k12, k22, by rw [List.length_set]; exact htl, fun t h1 h2 => ?_, fun t ht => ?_⟩
        · have := hKM.tn t (by omega) h2
          rw [List.getD_eq_getElem?_getD, List.getElem?_set_ne (by omega), ← List.getD_eq_getElem?_getD]
          exact this
        · by_cases e : t = k
          · subst e
            rw [List.getD_eq_getElem?_getD, htg]
            exact hIX
          · have e2 : (tc.set k v).getD t und = tc.getD t und := by rw [List.getD_eq_getElem?_getD, List.getElem?_set_ne (by omega), ← List.getD_eq_getElem?_getD]
            rw [e2]
            rcases hKM.td t (by omega) with h | ⟨b, h1, h2, h3, h4⟩
            · exact .inl h
            · exact .inr ⟨b, h1, h2, by omega, h4.same (hkp b h3 (by omega))⟩
      obtain ⟨bc, hbc, hIM⟩ := hIX.im (by omega)
      have hsk : kerX rows S (k + 1) = behind (narW (kerX rows S k) (tabF rows S k) (absI S.d) (freeF S.js).length) := rfl
      repeat' (first | (refine WO.opE (by intro; simp (disch := omega) only [go_sem]; rfl) (by simp only [pt8, pt5]; rfl) ?_) | (refine WT.spec rfl rfl (fun V => c81 _) (by simp only [pt8, pt5, pt6]; rfl) ?_) | (refine WC.seq ?_) | (refine WC.region ?_) | (refine WO.nil ?_) | (simp only [fl1, fl3, fl4, fl6, fl9]) | (refine WC.drawT ?_) | (refine WT.free rfl (by intro; simp (disch := omega) only [go_sem, k72, hix2, k22, htg, k02]; rfl) rfl (by simp only [pt8, pt0, pt1, pt2, pt3, pt4, pt6, pt7]; rfl) ?_) | (refine WT.big rfl rfl (by intro; simp (disch := omega) only [go_sem, k72, k22, htg, k02]; rfl) (by simp (disch := omega) only [go_sem, touch]; rfl) (by first | exact .inl rfl | exact .inr (apart_nil _) | exact .inr trivial | (right; apply apart_mk; simp only [apartL, List.nil_append, List.cons_append, List.getElem?_cons_succ, List.getElem?_cons_zero, Tch.free, and_true, true_and]; first | done | omega)) (by simp only [pt8, pt2, pt4, pt6]; rfl) ?_) | (refine WC.exit ?_) | (refine WC.em2 rfl (fun hp => ?_) (fun hp => ?_) <;> try (exfalso; first | omega | contradiction)))
      refine WT.callM (fun y H' => ∃ rv' q' xs' bs', y = .agg [.int .i64 (absI S.d), rv'] ∧ LatM H' rv' q' xs' bs' (kerX rows S (k + 1)) ∧ Ext G2 H' ∧ (∀ b ∈ bs', G2.length ≤ b) ∧ G2.length ≤ q' ∧ q' < H'.length) rfl rfl ?_ ?_
      · refine (f99 hs6 hd0 hd9 hlat2 hXB (by omega) hIM htab (fun t ht => tab_bd hB hv (fun i hi => hl.six hi) hk ht) hbc).mono ?_
        rintro y m' ⟨rv', q', xs', bs', H', rfl, rfl, e1, e2, e3, e4, e5⟩
        exact ⟨rfl, ⟨e2.1, fun b hb => .inl (e2.2 b hb)⟩, rv', q', xs', bs', rfl, by rw [hsk]; exact e1, e2, e3, e4, e5⟩
      · rintro _ H' _ ⟨rv', q', xs', bs', rfl, e1, e2, e3, e4, e5⟩
        simp only [pt8, pt6]
        have k7H : Zz.look H' N7 0 = some [.int .i64 dl, rv] := e2.look k72
        have l7H := look_lt k7H
        have hrc' : rv'.cells = some [rv'] := by
          rcases e1.gs with ⟨rfl, _⟩ | ⟨g, rfl, _⟩ | ⟨g, n, rfl, _⟩ <;> rfl
        unfold AV.cells at hrc'
        have hsetN : ∀ b, b ≠ N7 → (H'.set N7 (some ⟨0, [.int .i64 (absI S.d), rv']⟩))[b]? = H'[b]? := fun b hb => List.getElem?_set_ne (Ne.symm hb)
        repeat' (first | (refine WO.opE (by intro; simp (disch := omega) only [go_sem]; rfl) (by simp only [pt8, pt7]; rfl) ?_) | (refine WC.region ?_) | (refine WO.nil ?_) | (simp only [fl10]) | (refine WT.nil ?_) | (refine WT.bigN rfl rfl (by intro; simp (disch := omega) only [go_sem, ov_all2, Nat.reduceAdd, k7H]; rfl) (by simp (disch := omega) only [go_sem, touch]; rfl) (by first | exact .inl rfl | exact .inr (apart_nil _) | exact .inr trivial | (right; apply apart_mk; simp only [apartL, List.nil_append, List.cons_append, List.getElem?_cons_succ, List.getElem?_cons_zero, Tch.free, and_true, true_and]; first | done | omega)) ?_))
        exact ⟨m - 1, by omega, _, H'.set N7 (some ⟨0, [.int .i64 (absI S.d), rv']⟩), tc.set k v, absI S.d, rv', q', xs', bs', k + 1, rfl, rfl, rfl, rfl, rfl, rfl, rfl, rfl, rfl, by omega, hKM2.keep hN3 (by rw [List.length_set]; exact e2.1) fun b h1 h2 => by rw [hsetN b h2, e2.2 b h1], look_set l7H, e1.keep (hsetN _ (by omega)) fun b hb => hsetN _ (by have := e3 b hb; omega), by rw [List.length_set]; exact e5, by omega, fun b hb => by have := e3 b hb; omega⟩
  · have hke : k = S.js.length := by omega
    subst hke
    have hrl := hlat.len
    rw [hXB.len] at hrl
    generalize hXe : kerX rows S S.js.length = X at *
    repeat' (first | (refine WO.opE (by intro; simp (disch := omega) only [go_sem, k7]; rfl) (by simp only [pt8, pt0, pt1, pt3]; rfl) ?_) | (refine WO.opE (by intro; exact ev_lenS (by simp only [go_sem]; first | rfl | assumption)) (by simp only [pt8, pt2]; rfl) ?_) | (refine WC.seq ?_) | (refine WC.region ?_) | (refine WO.nil ?_) | (simp only [fl1]) | (refine WC.exit ?_) | (refine WC.block ?_) | (refine WC.em2 rfl (fun hp => ?_) (fun hp => ?_) <;> try (exfalso; first | omega | contradiction)))
    have hXl := hXB.len
    have hflat0 : flatR ((X.take 0).map (kerR rows S)) = [] := rfl
    obtain ⟨GL, hGL⟩ : ∃ GL, GL = G.length := ⟨_, rfl⟩
    have h2G := look_lt hKM.k2
    refine WC.loopI (fun m st => ∃ T G' ov qo i, st = ⟨T, G', []⟩ ∧ T.length = 138 ∧ gt T 4 = .pref 0 0 0 ∧ gt T 5 = .sref 1 0 0 1 (freeF S.js).length (some 6) ∧ gt T 6 = .sref 2 0 0 1 S.js.length (some S.js.length) ∧ gt T 11 = ov ∧ gt T 73 = rv ∧ gt T 74 = .int .i64 ((freeF S.js).length : Nat) ∧ gt T 75 = .int .i64 (i : Nat) ∧ m + i = (freeF S.js).length ∧ GL ≤ G'.length ∧ (∀ b, b < GL → G'[b]? = G[b]?) ∧ GS 6 G' ov qo (flatR ((X.take i).map (kerR rows S))) ∧ GL ≤ qo) ?_ (freeF S.js).length _ ⟨_, G, .snil, GL, 0, rfl, rfl, rfl, rfl, rfl, rfl, rfl, rfl, rfl, by omega, by omega, fun b _ => rfl, .inl ⟨rfl, hflat0⟩, Nat.le_refl _⟩
    obtain ⟨Gs, hGs⟩ : ∃ Gs, Gs = G := ⟨_, rfl⟩
    rw [← hGs] at hKM k0 k1 k7 hlat hqG hGL h2G ⊢
    clear hGs G g4 g5 g6 g7 g37 g38 g39 f k7
    rintro m _ ⟨T, G, ov, qo, i, rfl, hT, g4, g5, g6, g11, g73, g74, g75, hm, hGl, hkp, hgs, hqo⟩
    obtain ⟨f, rfl⟩ := ex138 hT
    clear hT
    replace g4 : f 4 = .pref 0 0 0 := g4
    replace g5 : f 5 = .sref 1 0 0 1 (freeF S.js).length (some 6) := g5
    replace g6 : f 6 = .sref 2 0 0 1 S.js.length (some S.js.length) := g6
    replace g11 : f 11 = ov := g11
    replace g73 : f 73 = rv := g73
    replace g74 : f 74 = .int .i64 ((freeF S.js).length : Nat) := g74
    replace g75 : f 75 = .int .i64 (i : Nat) := g75
    simp only [g4, g5, g6, g11, g73, g74, g75]
    by_cases hin : i < (freeF S.js).length
    · obtain ⟨gi, ai1, ai2, ai3, hRi⟩ := hlat.at (i := i) (by omega)
      have hai2 : Zz.look G q gi = some xs := (look_of_get (hkp q (by omega))).trans ai2
      have hxc := hRi.cell
      unfold AV.cells at hxc
      have hil := hXB.row i hin
      have hRl := hRi.lt
      generalize hxe : xs.getD i und = x at *
      have hz6 : ([.int .i64 0, .int .i64 0, .int .i64 0, .int .i64 0, .int .i64 0, .int .i64 0] : List AV) = icells (List.replicate 6 0) := rfl
      have k0G : ∀ c : List AV, Zz.look (G ++ [some ⟨0, c⟩]) 0 0 = some [l, iv, jv, .int .i64 S.d] := fun c => (look_left (by omega)).trans ((look_of_get (hkp 0 (by omega))).trans k0)
      have k1G : ∀ c : List AV, Zz.look (G ++ [some ⟨0, c⟩]) 1 0 = some fc := fun c => (look_left (by omega)).trans ((look_of_get (hkp 1 (by omega))).trans k1)
      have k2G : ∀ c : List AV, Zz.look (G ++ [some ⟨0, c⟩]) 2 0 = some tc := fun c => (look_left (by omega)).trans ((look_of_get (hkp 2 (by omega))).trans hKM.k2)
      have hxB : ∀ k, k < (freeF S.js).length → 0 ≤ (X.getD i []).getD k 0 ∧ (X.getD i []).getD k 0 ≤ 1000000000 := fun k hk => by
        have := hXB.el i k hin hk
        have e : ent X i k = (X.getD i []).getD k 0 := rfl
        rw [e] at this
        omega
      repeat' (first | (refine WO.opE (by intro; simp (disch := omega) only [go_sem, ai1, hai2, ai3, hz6]; rfl) (by simp only [pt8, pt1, pt4, pt5, pt6, pt7]; rfl) ?_) | (refine WO.opE (by intro; exact ev_lenS (by simp only [go_sem]; first | rfl | assumption)) (by simp only [pt8, pt0]; rfl) ?_) | (refine WC.seq ?_) | (refine WC.region ?_) | (refine WO.nil ?_) | (simp only [fl1]) | (refine WC.skip ?_) | (refine WC.block ?_) | (refine WC.em2 rfl (fun hp => ?_) (fun hp => ?_) <;> try (exfalso; first | omega | contradiction)))
      refine WC.loopI (fun m2 s => ∃ T w n, s = ⟨T, G ++ [some ⟨0, icells w⟩], []⟩ ∧ T.length = 138 ∧ gt T 4 = .pref 0 0 0 ∧ gt T 5 = .sref 1 0 0 1 (freeF S.js).length (some 6) ∧ gt T 6 = .sref 2 0 0 1 S.js.length (some S.js.length) ∧ gt T 11 = ov ∧ gt T 13 = x ∧ gt T 14 = .pref G.length 0 0 ∧ gt T 73 = rv ∧ gt T 74 = .int .i64 ((freeF S.js).length : Nat) ∧ gt T 75 = .int .i64 (i : Nat) ∧ gt T 79 = .sref 1 0 0 1 (freeF S.js).length (some 6) ∧ gt T 80 = .int .i64 ((freeF S.js).length : Nat) ∧ gt T 81 = .int .i64 (n : Nat) ∧ m2 + n = (freeF S.js).length ∧ w.length = 6 ∧ (∀ t, t < n → w.getD ((freeF S.js).getD t 0) 0 = (X.getD i []).getD t 0) ∧ ∀ t, t < S.js.length → w.getD (S.js.getD t 0) 0 = 0) ?_ (freeF S.js).length _ ⟨_, List.replicate 6 0, 0, rfl, rfl, rfl, rfl, rfl, rfl, rfl, rfl, rfl, rfl, rfl, rfl, rfl, rfl, by omega, rfl, fun t ht => by omega, fun t ht => zero_at 6 _⟩
      clear g4 g5 g6 g11 g73 g74 g75 f ai1 ai3
      rintro m2 _ ⟨T, w, n, rfl, hT, g4, g5, g6, g11, g13, g14, g73, g74, g75, g79, g80, g81, hm2, hwl, hw1, hw2⟩
      obtain ⟨f, rfl⟩ := ex138 hT
      clear hT
      replace g4 : f 4 = .pref 0 0 0 := g4
      replace g5 : f 5 = .sref 1 0 0 1 (freeF S.js).length (some 6) := g5
      replace g6 : f 6 = .sref 2 0 0 1 S.js.length (some S.js.length) := g6
      replace g11 : f 11 = ov := g11
      replace g13 : f 13 = x := g13
      replace g14 : f 14 = .pref G.length 0 0 := g14
      replace g73 : f 73 = rv := g73
      replace g74 : f 74 = .int .i64 ((freeF S.js).length : Nat) := g74
      replace g75 : f 75 = .int .i64 (i : Nat) := g75
      replace g79 : f 79 = .sref 1 0 0 1 (freeF S.js).length (some 6) := g79
      replace g80 : f 80 = .int .i64 ((freeF S.js).length : Nat) := g80
      replace g81 : f 81 = .int .i64 (n : Nat) := g81
      simp only [g4, g5, g6, g11, g13, g14, g73, g74, g75, g79, g80, g81]
      by_cases hn : n < (freeF S.js).length
      · have hfn := hfc n hn
        have hixn : indexAddrAV 1 (.sref 1 0 0 1 (freeF S.js).length (some 6)) (.int .i64 (n : Int)) = some (.pref 1 0 n) := by rw [ia_sref, idx_nat hn]; simp
        have hj6 := (free_mem.1 (getD_mem hn)).1
        have hjn := (free_mem.1 (getD_mem hn)).2
        obtain ⟨g1', o1, c1, b1, b2, b3, _⟩ := hRi.at (i := n) (by omega)
        have b2G : ∀ c : List AV, Zz.look (G ++ [some ⟨0, c⟩]) (bs.getD i 0) g1' = some c1 := fun c => (look_left (by omega)).trans ((look_of_get (hkp _ (by omega))).trans b2)
        have hovw := icells_over (r := w) (j := (freeF S.js).getD n 0) (by omega) ((X.getD i []).getD n 0)
        repeat' (first | (refine WO.opE (by intro; simp (disch := omega) only [go_sem, hixn, hfn, k1G, b1, b2G, b3, Nat.mul_one]; rfl) (by simp only [pt8, pt0, pt1, pt2, pt3, pt4, pt5, pt6, pt7]; rfl) ?_) | (refine WO.opN (by intro; simp (disch := omega) only [go_sem, Option.bind_eq_bind, app_s0, hovw, lk0]; rfl) ?_) | (refine WC.seq ?_) | (refine WC.region ?_) | (refine WO.nil ?_) | (simp only [fl10]) | (refine WC.skip ?_) | (refine WC.block ?_) | (refine WC.em2 rfl (fun hp => ?_) (fun hp => ?_) <;> try (exfalso; first | omega | contradiction)))
        exact ⟨m2 - 1, by omega, _, w.set ((freeF S.js).getD n 0) ((X.getD i []).getD n 0), n + 1, rfl, rfl, rfl, rfl, rfl, rfl, rfl, rfl, rfl, rfl, rfl, rfl, rfl, rfl, by omega, by simpa using hwl, fun t ht => by
          by_cases e : t = n
          · subst e; rw [getD_set_self (by omega)]
          · rw [getD_set_ne fun h => e (getD_inj (free_nodup _) hn (by omega) h).symm]
            exact hw1 t (by omega), fun t ht => by
          rw [getD_set_ne (js_ne ht hn).symm]
          exact hw2 t ht⟩
      · have hne : n = (freeF S.js).length := by omega
        subst hne
        repeat' (first | (refine WO.opE (by intro; simp (disch := omega) only [go_sem, k0G]; rfl) (by simp only [pt8, pt0, pt2, pt5, pt6]; rfl) ?_) | (refine WO.opE (by intro; exact ev_lenS (by simp only [go_sem]; first | rfl | assumption)) (by simp only [pt8, pt7]; rfl) ?_) | (refine WC.seq ?_) | (refine WC.region ?_) | (refine WO.nil ?_) | (simp only [fl1]) | (refine WC.exit ?_) | (refine WC.block ?_) | (refine WC.em2 rfl (fun hp => ?_) (fun hp => ?_) <;> try (exfalso; first | omega | contradiction)))
        refine WC.loopI (fun m3 s => ∃ T w k, s = ⟨T, G ++ [some ⟨0, icells w⟩], []⟩ ∧ T.length = 138 ∧ gt T 4 = .pref 0 0 0 ∧ gt T 5 = .sref 1 0 0 1 (freeF S.js).length (some 6) ∧ gt T 6 = .sref 2 0 0 1 S.js.length (some S.js.length) ∧ gt T 11 = ov ∧ gt T 13 = x ∧ gt T 14 = .pref G.length 0 0 ∧ gt T 73 = rv ∧ gt T 74 = .int .i64 ((freeF S.js).length : Nat) ∧ gt T 75 = .int .i64 (i : Nat) ∧ gt T 94 = jv ∧ gt T 95 = .int .i64 (S.js.length : Nat) ∧ gt T 96 = .int .i64 (k : Nat) ∧ m3 + k = S.js.length ∧ w.length = 6 ∧ (∀ t, t < (freeF S.js).length → w.getD ((freeF S.js).getD t 0) 0 = (X.getD i []).getD t 0) ∧ (∀ t, t < k → w.getD (S.js.getD t 0) 0 = (-sumK rows S (X.getD i []) t (freeF S.js).length).tdiv S.d) ∧ ∀ t, k ≤ t → t < S.js.length → w.getD (S.js.getD t 0) 0 = 0) ?_ S.js.length _ ⟨_, w, 0, rfl, rfl, rfl, rfl, rfl, rfl, rfl, rfl, rfl, rfl, rfl, rfl, rfl, rfl, by omega, hwl, hw1, fun t ht => by omega, fun t _ ht => hw2 t ht⟩
        clear g4 g5 g6 g11 g13 g14 g73 g74 g75 g79 g80 g81 f hwl hw1 hw2
        rintro m3 _ ⟨T, w, k, rfl, hT, g4, g5, g6, g11, g13, g14, g73, g74, g75, g94, g95, g96, hm3, hwl, hw0, hw1, hw2⟩
        obtain ⟨f, rfl⟩ := ex138 hT
        clear hT
        replace g4 : f 4 = .pref 0 0 0 := g4
        replace g5 : f 5 = .sref 1 0 0 1 (freeF S.js).length (some 6) := g5
        replace g6 : f 6 = .sref 2 0 0 1 S.js.length (some S.js.length) := g6
        replace g11 : f 11 = ov := g11
        replace g13 : f 13 = x := g13
        replace g14 : f 14 = .pref G.length 0 0 := g14
        replace g73 : f 73 = rv := g73
        replace g74 : f 74 = .int .i64 ((freeF S.js).length : Nat) := g74
        replace g75 : f 75 = .int .i64 (i : Nat) := g75
        replace g94 : f 94 = jv := g94
        replace g95 : f 95 = .int .i64 (S.js.length : Nat) := g95
        replace g96 : f 96 = .int .i64 (k : Nat) := g96
        simp only [g4, g5, g6, g11, g13, g14, g73, g74, g75, g94, g95, g96]
        by_cases hk : k < S.js.length
        · obtain ⟨t2, hat2⟩ := hjv.at hk
          have hj6 : S.js.getD k 0 < 6 := hB.j.2 _ (getD_mem hk)
          have htb := fun n (hn : n < (freeF S.js).length) => tab_bd hB hv (fun i hi => hl.six hi) hk hn
          have hsb := sumK_bd (k := k) hxB htb
          have hs0 : sumK rows S (X.getD i []) k 0 = 0 := rfl
          repeat' (first | (refine WO.opE (by intro; simp (disch := omega) only [go_sem, hat2]; rfl) (by simp only [pt8, pt1, pt2, pt3, pt4, pt5, pt7]; rfl) ?_) | (refine WO.opE (by intro; exact ev_lenS (by simp only [go_sem]; first | rfl | assumption)) (by simp only [pt8, pt6]; rfl) ?_) | (refine WC.seq ?_) | (refine WC.region ?_) | (refine WO.nil ?_) | (simp only [fl1]) | (refine WC.skip ?_) | (refine WC.block ?_) | (refine WC.em2 rfl (fun hp => ?_) (fun hp => ?_) <;> try (exfalso; first | omega | contradiction)))
          refine WC.loopI (fun m4 s => ∃ T w n, s = ⟨T, G ++ [some ⟨0, icells w⟩], []⟩ ∧ T.length = 138 ∧ gt T 4 = .pref 0 0 0 ∧ gt T 5 = .sref 1 0 0 1 (freeF S.js).length (some 6) ∧ gt T 6 = .sref 2 0 0 1 S.js.length (some S.js.length) ∧ gt T 11 = ov ∧ gt T 13 = x ∧ gt T 14 = .pref G.length 0 0 ∧ gt T 17 = .int .i64 (k : Nat) ∧ gt T 18 = .int .i64 ((S.js.getD k 0 : Nat) : Int) ∧ gt T 73 = rv ∧ gt T 74 = .int .i64 ((freeF S.js).length : Nat) ∧ gt T 75 = .int .i64 (i : Nat) ∧ gt T 94 = jv ∧ gt T 95 = .int .i64 (S.js.length : Nat) ∧ gt T 96 = .int .i64 (k : Nat) ∧ gt T 101 = .sref 1 0 0 1 (freeF S.js).length (some 6) ∧ gt T 102 = .int .i64 ((freeF S.js).length : Nat) ∧ gt T 103 = .int .i64 (n : Nat) ∧ m4 + n = (freeF S.js).length ∧ w.length = 6 ∧ (∀ t, t < (freeF S.js).length → w.getD ((freeF S.js).getD t 0) 0 = (X.getD i []).getD t 0) ∧ (∀ t, t < k → w.getD (S.js.getD t 0) 0 = (-sumK rows S (X.getD i []) t (freeF S.js).length).tdiv S.d) ∧ (w.getD (S.js.getD k 0) 0 = -sumK rows S (X.getD i []) k n) ∧ ∀ t, k + 1 ≤ t → t < S.js.length → w.getD (S.js.getD t 0) 0 = 0) ?_ (freeF S.js).length _ ⟨_, w, 0, rfl, rfl, rfl, rfl, rfl, rfl, rfl, rfl, rfl, rfl, rfl, rfl, rfl, rfl, rfl, rfl, rfl, rfl, rfl, by omega, hwl, hw0, hw1, by rw [hs0]; exact hw2 k (Nat.le_refl _) hk, fun t h1 h2 => hw2 t (by omega) h2⟩
          clear g4 g5 g6 g11 g13 g14 g73 g74 g75 g94 g95 g96 f hwl hw0 hw1 hw2
          rintro m4 _ ⟨T, w, n, rfl, hT, g4, g5, g6, g11, g13, g14, g17, g18, g73, g74, g75, g94, g95, g96, g101, g102, g103, hm4, hwl, hw0, hw1, hwk, hw2⟩
          obtain ⟨f, rfl⟩ := ex138 hT
          clear hT
          replace g4 : f 4 = .pref 0 0 0 := g4
          replace g5 : f 5 = .sref 1 0 0 1 (freeF S.js).length (some 6) := g5
          replace g6 : f 6 = .sref 2 0 0 1 S.js.length (some S.js.length) := g6
          replace g11 : f 11 = ov := g11
          replace g13 : f 13 = x := g13
          replace g14 : f 14 = .pref G.length 0 0 := g14
          replace g17 : f 17 = .int .i64 (k : Nat) := g17
          replace g18 : f 18 = .int .i64 ((S.js.getD k 0 : Nat) : Int) := g18
          replace g73 : f 73 = rv := g73
          replace g74 : f 74 = .int .i64 ((freeF S.js).length : Nat) := g74
          replace g75 : f 75 = .int .i64 (i : Nat) := g75
          replace g94 : f 94 = jv := g94
          replace g95 : f 95 = .int .i64 (S.js.length : Nat) := g95
          replace g96 : f 96 = .int .i64 (k : Nat) := g96
          replace g101 : f 101 = .sref 1 0 0 1 (freeF S.js).length (some 6) := g101
          replace g102 : f 102 = .int .i64 ((freeF S.js).length : Nat) := g102
          replace g103 : f 103 = .int .i64 (n : Nat) := g103
          simp only [g4, g5, g6, g11, g13, g14, g17, g18, g73, g74, g75, g94, g95, g96, g101, g102, g103]
          have hia := icells_at (r := w) (j := S.js.getD k 0) (by omega)
          rw [hwk] at hia
          have hovw := fun y => icells_over (r := w) (j := S.js.getD k 0) (by omega) y
          by_cases hn : n < (freeF S.js).length
          · obtain ⟨g1', o1, c1, b1, b2, b3, _⟩ := hRi.at (i := n) (by omega)
            have b2G : ∀ c : List AV, Zz.look (G ++ [some ⟨0, c⟩]) (bs.getD i 0) g1' = some c1 := fun c => (look_left (by omega)).trans ((look_of_get (hkp _ (by omega))).trans b2)
            have htl := tab_len rows S k
            obtain ⟨bt, hbt1, hbt2⟩ : ∃ bt, bt < Gs.length ∧ RowM Gs (tc.getD k und) bt (tabF rows S k) := by
              rcases hKM.td k hk with ⟨_, h⟩ | ⟨b, _, _, h1, h2⟩
              · rw [h] at htl; simp at htl; omega
              · exact ⟨b, h1, h2⟩
            have htc : tc[k]? = some (tc.getD k und) := by
              rw [List.getD_eq_getElem?_getD, List.getElem?_eq_getElem (by rw [hKM.tl]; exact hk), Option.getD_some]
            have htcc := hbt2.cell
            unfold AV.cells at htcc
            obtain ⟨g2', o2, c2, d1, d2, d3, _⟩ := hbt2.at (i := n) (by omega)
            have d2G : ∀ c : List AV, Zz.look (G ++ [some ⟨0, c⟩]) bt g2' = some c2 := fun c => (look_left (by omega)).trans ((look_of_get (hkp _ (by omega))).trans d2)
            generalize tc.getD k und = tv at *
            have hix2 : indexAddrAV 1 (.sref 2 0 0 1 S.js.length (some S.js.length)) (.int .i64 (k : Int)) = some (.pref 2 0 k) := by rw [ia_sref, idx_nat hk]; simp
            have hse : sumK rows S (X.getD i []) k (n + 1) = sumK rows S (X.getD i []) k n + (tabF rows S k).getD n 0 * (X.getD i []).getD n 0 := rfl
            have hmul := mul_bd (htb n hn) (hxB n hn)
            have hsk := hsb n (by omega)
            have hsk1 := hsb (n + 1) (by omega)
            have hse2 : -sumK rows S (X.getD i []) k n - (tabF rows S k).getD n 0 * (X.getD i []).getD n 0 = -sumK rows S (X.getD i []) k (n + 1) := by omega
            repeat' (first | (refine WO.opE (by intro; simp (disch := omega) only [go_sem, hia, hix2, k2G, htc, d1, d2G, d3, b1, b2G, b3, lk0, hse2, Nat.mul_one]; rfl) (by simp only [pt8, pt0, pt1, pt2, pt3, pt4, pt5, pt6, pt7]; rfl) ?_) | (refine WO.opN (by intro; simp (disch := omega) only [go_sem, Option.bind_eq_bind, app_s0, hovw, lk0]; rfl) ?_) | (refine WC.seq ?_) | (refine WC.region ?_) | (refine WO.nil ?_) | (simp only [fl1, fl10]) | (refine WC.calm rfl ?_) | (refine WC.skip ?_) | (refine WC.block ?_) | (refine WC.em2 rfl (fun hp => ?_) (fun hp => ?_) <;> try (exfalso; first | omega | contradiction)))
            exact ⟨m4 - 1, by omega, _, w.set (S.js.getD k 0) (-sumK rows S (X.getD i []) k (n + 1)), n + 1, rfl, rfl, rfl, rfl, rfl, rfl, rfl, rfl, rfl, rfl, rfl, rfl, rfl, rfl, rfl, rfl, rfl, rfl, rfl, by omega, by simpa using hwl, fun t ht => by
              rw [getD_set_ne (js_ne hk ht)]
              exact hw0 t ht, fun t ht => by
              rw [getD_set_ne fun h => by have := getD_inj hB.j.1 hk (by omega) h; omega]
              exact hw1 t ht, by rw [getD_set_self (by omega)], fun t h1 h2 => by
              rw [getD_set_ne fun h => by have := getD_inj hB.j.1 hk (by omega) h; omega]
              exact hw2 t h1 h2⟩
          · have hne : n = (freeF S.js).length := by omega
            subst hne
            have hd0' : ¬ S.d = 0 := hB.ne
            have hsk := hsb (freeF S.js).length (Nat.le_refl _)
            have htdb := tdiv_bd (a := -sumK rows S (X.getD i []) k (freeF S.js).length) (M := 9000000000000000000) hd0' (by omega)
            repeat' (first | (refine WO.opE (by intro; simp (disch := omega) only [go_sem, k0G, hia, lk0, hd0', if_false, Nat.mul_one]; rfl) (by simp only [pt8, pt0, pt1, pt2, pt3, pt4, pt5, pt6, pt7]; rfl) ?_) | (refine WO.opN (by intro; simp (disch := omega) only [go_sem, Option.bind_eq_bind, app_s0, hovw, lk0]; rfl) ?_) | (refine WC.seq ?_) | (refine WC.region ?_) | (refine WO.nil ?_) | (simp only [fl1, fl3, fl6, fl9, fl10]) | (refine WC.calm rfl ?_) | (refine WC.exit ?_) | (refine WC.em2 rfl (fun hp => ?_) (fun hp => ?_) <;> try (exfalso; first | omega | contradiction)))
            exact ⟨m3 - 1, by omega, _, w.set (S.js.getD k 0) ((-sumK rows S (X.getD i []) k (freeF S.js).length).tdiv S.d), k + 1, rfl, rfl, rfl, rfl, rfl, rfl, rfl, rfl, rfl, rfl, rfl, rfl, rfl, rfl, by omega, by simpa using hwl, fun t ht => by
              rw [getD_set_ne (js_ne hk ht)]
              exact hw0 t ht, fun t ht => by
              by_cases e : t = k
              · subst e; rw [getD_set_self (by omega)]
              · rw [getD_set_ne fun h => by have := getD_inj hB.j.1 hk (by omega) h; omega]
                exact hw1 t (by omega), fun t h1 h2 => by
              rw [getD_set_ne fun h => by have := getD_inj hB.j.1 hk (by omega) h; omega]
              exact hw2 t h1 h2⟩
        · have hke : k = S.js.length := by omega
          subst hke
          have hwe : w = kerR rows S (X.getD i []) := kerR_of hwl hB.j.1 hw1 hw0
          have hnext : (X.take i).map (kerR rows S) ++ [w] = (X.take (i + 1)).map (kerR rows S) := by
            rw [hwe, List.take_add_one, List.map_append, List.getElem?_eq_getElem (by omega), List.getD_eq_getElem?_getD, List.getElem?_eq_getElem (by omega)]
            rfl
          have hmlw : (icells w).length = 6 := by rw [icells_len, hwl]
          have hcutw := icells_cut hwl
          have hovw := fun x0 x1 x2 x3 x4 x5 => icells_over6 hwl (x0 := x0) (x1 := x1) (x2 := x2) (x3 := x3) (x4 := x4) (x5 := x5)
          obtain ⟨ov', q', H2, a1, a2, a3, a4, a5⟩ := rowPush (L := []) hgs kerR_six hwl (by simp; omega) [some ⟨0, icells w⟩, some ⟨0, icells w⟩] (lk1 rfl)
          rw [hnext] at a2
          simp only [List.length_cons, List.length_nil, Nat.zero_add, Nat.reduceAdd] at a3 a4
          have hk5 : ∀ j, j < G.length → j ≠ qo → H2[j]? = G[j]? := fun j h1 h2 => by rw [a5 j (by simp; omega) h2, List.getElem?_append_left h1]
          repeat' (first | (refine WO.opE (by intro; simp (disch := omega) only [go_sem, fillP, Option.bind_eq_bind, List.append_assoc, zeros, List.length_append, hcutw, hovw, hmlw, lk0]; rfl) (by simp only [pt8, pt0, pt1, pt3, pt4, pt5, pt6]; rfl) ?_) | (refine WO.opE (by intro; rw [ev_append]; exact a1) (by simp only [pt8, pt7]; rfl) ?_) | (refine WC.seq ?_) | (refine WC.region ?_) | (refine WO.nil ?_) | (simp only [fl10]) | (refine WC.exit ?_) | (refine WC.em2 rfl (fun hp => ?_) (fun hp => ?_) <;> try (exfalso; first | omega | contradiction)))
          exact ⟨m - 1, by omega, _, H2, ov', q', i + 1, rfl, rfl, rfl, rfl, rfl, rfl, rfl, rfl, rfl, by omega, by omega, fun b hb => by rw [hk5 b (by omega) (by omega), hkp b hb], a2, by omega⟩
    · have hie : i = (freeF S.js).length := by omega
      subst hie
      rw [List.take_of_length_le (by omega), ← hker] at hgs
      repeat' (first | (refine WO.opE (by intro; simp (disch := omega) only [go_sem]; rfl) (by simp only [pt8, pt1, pt2, pt3, pt4]; rfl) ?_) | (refine WC.seq ?_) | (refine WC.region ?_) | (refine WO.nil ?_) | (simp only [fl1]) | (refine WC.exit ?_) | (refine WC.ret ?_) | (refine WC.em2 rfl (fun hp => ?_) (fun hp => ?_) <;> try (exfalso; first | omega | contradiction)))
      exact ⟨_, rfl, ov, qo, rfl, hgs⟩
noncomputable def E20 : Env := E19.put 30 (borrowE E19 30)
theorem E20_ok : EnvOk Try.prog E20 := Env.put_ok E19_ok (borrowE_ok E19_ok (callable Try.func30 (by kernel_rfl)))
end Go.Proofs.Ytnilimjkibimcaa

