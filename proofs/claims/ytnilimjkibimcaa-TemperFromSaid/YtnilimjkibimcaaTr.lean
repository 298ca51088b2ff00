import Derived.Test.YtnilimjkibimcaaTq
set_option linter.unusedSimpArgs false
set_option linter.unusedVariables false

namespace Go.Proofs.Ytnilimjkibimcaa
open Go.Zz
set_option maxRecDepth 100000
set_option maxHeartbeats 8000000
theorem KerP.all {e f : Nat → Nat → Int} {m n : Nat} {v : Nat → Int} (h : ∀ i, i < m → Sp 6 (rowsP f n) (e i)) (hv : KerP f n v) : KerP e m v := fun i hi => by
  have : KerP (fun _ => v) 1 (e i) := KerP.closed (S := rowsP f n) (fun g hg k _ => by
    obtain ⟨t, ht, rfl⟩ := hg
    have := hv t ht
    rw [← this]
    exact psumF_congr fun j _ => Int.mul_comm _ _) (h i hi)
  have := this 0 (by decide)
  rw [← this]
  exact psumF_congr fun j _ => Int.mul_comm _ _
theorem temp_iff {rows : List (List Int)} {v : List Int} (ht : VT rows) (hv : okB 48 v) : tempR rows v = true ↔ KerP (ent rows) rows.length (vF v) := by
  unfold tempR
  rw [decide_eq_true_iff]
  constructor
  · intro h i hi
    have := h.2 i hi
    rw [img_at hi] at this
    exact this
  · intro h
    refine ⟨⟨ht, hv⟩, fun t hi => ?_⟩
    rw [img_at hi]
    exact h t hi
theorem temp_twice {rows : List (List Int)} {v : List Int} (h6 : Six rows) (ht : VT rows) (hv : okB 48 v) (hK : VM (kerF rows)) (hN : VT (kerF (kerF rows))) : tempR (kerF (kerF rows)) v = tempR rows v := by
  have h1 := ker_lat ht.2.2.1 h6
  have h2 := ker_lat hK (SixR.six h1.six)
  rw [Bool.eq_iff_iff, temp_iff hN hv, temp_iff ht hv]
  constructor
  · intro h
    exact KerP.all (fun i hi => (h2.sp _).2 (double_in h1 (Sp.row hi))) h
  · intro h
    exact double_in h2 ((h1.sp _).2 h)
theorem errF_ker {rows : List (List Int)} (h6 : Six rows) (ht : VT rows) : errF (kerF rows) = 0 ∨ errF (kerF rows) = 1 ∨ errF (kerF rows) = 3 := by
  unfold errF
  split
  · rename_i hc
    have h1 := ker_lat ht.2.2.1 h6
    have hr := (rank_self hc.1 h1.six h1.len h1.hf).1
    have k1 := kern_len ht.2.2.1 h6
    have e1 : kernR rows = kerF rows := if_pos ht.2.2.1
    have k2 := kern_len hc.1 (SixR.six h1.six)
    have e2 : kernR (kerF rows) = kerF (kerF rows) := if_pos hc.1
    rw [e1] at k1
    rw [e2] at k2
    have h3 := ht.1
    have h4 := ht.2.2.2
    rw [if_neg (by omega)]
    split
    · exact .inl rfl
    · exact .inr (.inr rfl)
  · exact .inr (.inl rfl)
theorem errF_zero {cs : List (List Int)} (he : errF cs = 0) : fromC cs ∧ VT (kerF cs) := by
  unfold errF at he
  split at he
  · rename_i h1
    split at he
    · cases he
    · split at he
      · rename_i h2; exact ⟨h1, h2⟩
      · cases he
  · cases he
theorem ex164 {T : List AV} (h : T.length = 164) : ∃ f : Nat → AV, T = [f 0, f 1, f 2, f 3, f 4, f 5, f 6, f 7, f 8, f 9, f 10, f 11, f 12, f 13, f 14, f 15, f 16, f 17, f 18, f 19, f 20, f 21, f 22, f 23, f 24, f 25, f 26, f 27, f 28, f 29, f 30, f 31, f 32, f 33, f 34, f 35, f 36, f 37, f 38, f 39, f 40, f 41, f 42, f 43, f 44, f 45, f 46, f 47, f 48, f 49, f 50, f 51, f 52, f 53, f 54, f 55, f 56, f 57, f 58, f 59, f 60, f 61, f 62, f 63, f 64, f 65, f 66, f 67, f 68, f 69, f 70, f 71, f 72, f 73, f 74, f 75, f 76, f 77, f 78, f 79, f 80, f 81, f 82, f 83, f 84, f 85, f 86, f 87, f 88, f 89, f 90, f 91, f 92, f 93, f 94, f 95, f 96, f 97, f 98, f 99, f 100, f 101, f 102, f 103, f 104, f 105, f 106, f 107, f 108, f 109, f 110, f 111, f 112, f 113, f 114, f 115, f 116, f 117, f 118, f 119, f 120, f 121, f 122, f 123, f 124, f 125, f 126, f 127, f 128, f 129, f 130, f 131, f 132, f 133, f 134, f 135, f 136, f 137, f 138, f 139, f 140, f 141, f 142, f 143, f 144, f 145, f 146, f 147, f 148, f 149, f 150, f 151, f 152, f 153, f 154, f 155, f 156, f 157, f 158, f 159, f 160, f 161, f 162, f 163] := ⟨gt T, by have := list_gts T; rw [h] at this; exact this⟩
def inR (r : List Int) (i : Nat) : Prop := ∀ t, t < i → -1000 ≤ r.getD t 0 ∧ r.getD t 0 ≤ 1000
theorem run23 {l lm : AV} {cs rows : List (List Int)} {r v : List Int} (hc : RwL l cs) (hcm : cs.length < 9223372036854775807) (hl : RwL lm rows) (hmax : rows.length < 9223372036854775807) (hr6 : r.length = 6) (hv6 : v.length = 6) : WF T24 (.func 23 [] []) [l, .agg (icells r), .agg [lm], .agg (icells v)] ⟨[], []⟩ fun y m' => y = .bool true := by
  have hll := hc.len
  have hlc := hc.cells
  have hlmc := hl.cells
  unfold AV.cells at hlc hlmc
  have h6 : Six rows := fun i hi => hl.six hi
  have h6c : Six cs := fun i hi => hc.six hi
  have hmv : (icells v).length = 6 := by rw [icells_len, hv6]
  have hcv := icells_cut hv6
  have hmr : (icells r).length = 6 := by rw [icells_len, hr6]
  have hcr := icells_cut hr6
  have c44 := fun m => s44 (m := m)
  obtain ⟨xc, hxc, c55⟩ := x55 hc hcm
  have c55 := fun m => c55 m l (hc.byVal _)
  have hxcc := hxc.cells
  unfold AV.cells at hxcc
  have cutx : Zz.cut [xc] 0 1 = some [xc] := rfl
  have ov1 : ∀ a : AV, Zz.over [a] 0 [xc] = some [xc] := fun _ => rfl
  refine WF.fnE rfl (fn_of Try.func23 cir23) (by show 4 ≤ 164; decide) ?_
  unfold ir23; dsimp only [k0, kI, mV, oO, oG]
  simp only [padTo, List.replicate, List.nil_append, List.append_nil]
  refine WC.seq (WC.region ?_)
  repeat' (first | (refine WO.opE (by intro; simp (disch := omega) only [go_sem, Nat.reduceAdd]; rfl) (by simp only [pt8, pt0, pt5, pt6, pt7]; rfl) ?_))
  refine WO.nil (WC.seq (WC.region ?_))
  repeat' (first | (refine WO.opE (by intro; simp (disch := omega) only [go_sem]; rfl) (by simp only [pt8, pt1]; rfl) ?_) | (refine WO.specE rfl rfl (c44 _) (by simp only [pt8, pt4]; rfl) ?_))
  refine WO.nil (WC.seq (WC.region ?_))
  repeat' (first | (refine WO.opE (by intro; simp (disch := omega) only [go_sem, Nat.reduceAdd]; rfl) (by simp only [pt8, pt0, pt1, pt2, pt3, pt5, pt6]; rfl) ?_) | (refine WO.opN (by intro; simp (disch := omega) only [go_sem, Option.bind_eq_bind, ov1, Zz.look]; rfl) ?_) | (refine WO.specE rfl rfl (c55 _) (by simp only [pt8, pt7]; rfl) ?_))
  refine WO.nil (WC.seq (WC.mono (Q := fun e s => e = .normal ∧ ∃ T, s = ⟨T, [some ⟨0, icells r⟩, some ⟨0, [lm]⟩, some ⟨0, icells v⟩, some ⟨0, [xc]⟩], []⟩ ∧ T.length = 164 ∧ gt T 6 = .pref 1 0 0 ∧ gt T 7 = .pref 2 0 0 ∧ gt T 9 = .bool true) ?_ ?_))
  · by_cases he : errF cs = 0
    · have hN := errF_zero he
      have eR : fromR cs = kerF cs := if_pos hN
      rw [eR] at hxc
      have hK := ker_lat hN.1.1 h6c
      have h6k : Six (kerF cs) := SixR.six hK.six
      have hkm : (kerF cs).length ≤ 3 := hN.2.1.2
      have c45 := fun m => x45 (m := m) hxc (by omega) (hxc.byC _)
      rw [decide_eq_true hN.2] at c45
      obtain ⟨xm, hxm, c66⟩ := s66 hxc (by omega) hr6
      have hxmc := hxm.cells
      unfold AV.cells at hxmc
      simp only [he]
      repeat' (first | (refine WO.opE (by intro; simp (disch := omega) only [go_sem]; rfl) (by simp only [pt8, pt2, pt3, pt4, pt5]; rfl) ?_) | (refine WC.seq ?_) | (refine WC.region ?_) | (refine WO.nil ?_) | (simp only [fl1]) | (refine WC.yes rfl ?_) | (refine WC.block ?_))
      refine WC.loopI (fun m s => ∃ T b i, s = ⟨T, [some ⟨0, icells r⟩, some ⟨0, [lm]⟩, some ⟨0, icells v⟩, some ⟨0, [xc]⟩], []⟩ ∧ T.length = 164 ∧ gt T 0 = l ∧ gt T 5 = .pref 0 0 0 ∧ gt T 6 = .pref 1 0 0 ∧ gt T 7 = .pref 2 0 0 ∧ gt T 9 = .bool true ∧ gt T 10 = .pref 3 0 0 ∧ gt T 12 = .bool b ∧ gt T 13 = .int .i64 (i : Nat) ∧ m + i = 6 ∧ (b = true ↔ inR r i)) ?_ 6 _ ⟨_, true, 0, rfl, rfl, rfl, rfl, rfl, rfl, rfl, rfl, rfl, rfl, by omega, ⟨fun _ t ht => by omega, fun _ => rfl⟩⟩
      rintro m _ ⟨T, b, i, rfl, hT, g0, g5, g6, g7, g9, g10, g12, g13, hm, hb⟩
      obtain ⟨f, rfl⟩ := ex164 hT
      clear hT
      replace g0 : f 0 = l := g0
      replace g5 : f 5 = .pref 0 0 0 := g5
      replace g6 : f 6 = .pref 1 0 0 := g6
      replace g7 : f 7 = .pref 2 0 0 := g7
      replace g9 : f 9 = .bool true := g9
      replace g10 : f 10 = .pref 3 0 0 := g10
      replace g12 : f 12 = .bool b := g12
      replace g13 : f 13 = .int .i64 (i : Nat) := g13
      simp only [g0, g5, g6, g7, g9, g10, g12, g13]
      by_cases hi : i < 6
      · have hia := icells_at (r := r) (j := i) (by omega)
        have hrec : inR r (i + 1) ↔ inR r i ∧ -1000 ≤ r.getD i 0 ∧ r.getD i 0 ≤ 1000 := ⟨fun h => ⟨fun t ht => h t (by omega), h i (by omega)⟩, fun h t ht => by
          by_cases e : t = i
          · subst e; exact h.2
          · exact h.1 t (by omega)⟩
        rw [← hb] at hrec
        clear hb
        cases b
        · have hrec : (false = true) ↔ inR r (i + 1) := by rw [hrec]; simp
          repeat' (first | (refine WO.noE rfl (by simp only [pt8, pt0, pt1, pt2, pt3, pt4, pt5]; rfl) ?_) | (refine WO.opE (by intro; simp (disch := omega) only [go_sem]; rfl) (by simp only [pt8, pt0, pt1, pt4, pt5, pt6, pt7]; rfl) ?_) | (refine WC.seq ?_) | (refine WC.region ?_) | (refine WO.nil ?_) | (simp only [fl1, fl10]) | (refine WC.skip ?_) | (refine WC.block ?_) | (refine WC.em2 rfl (fun hp => ?_) (fun hp => ?_) <;> try (exfalso; first | omega | contradiction)))
          exact ⟨m - 1, by omega, _, false, i + 1, rfl, rfl, rfl, rfl, rfl, rfl, rfl, rfl, rfl, rfl, by omega, hrec⟩
        · generalize hx : r.getD i 0 = x at *
          repeat' (first | (refine WO.yes rfl ?_) | (refine WO.noE rfl (by simp only [pt8, pt0, pt1, pt2, pt3]; rfl) ?_) | (refine WO.opE (by intro; simp (disch := omega) only [go_sem, Zz.look, Int.reduceNeg, Int.reduceAdd, hia, Nat.mul_one]; rfl) (by simp only [pt8, pt0, pt1, pt2, pt3, pt4, pt5, pt6, pt7]; rfl) ?_) | (refine WC.seq ?_) | (refine WC.region ?_) | (refine WO.nil ?_) | (simp only [fl1, fl4, fl10]) | (refine WC.skip ?_) | (refine WC.block ?_) | (refine WO.em2 rfl (by intro hp; simp only [hp, decide_true]; rfl) (by intro hp; simp only [hp, decide_false]; rfl) (fun hp => ?_) (fun hp => ?_) <;> try (exfalso; first | omega | contradiction)) | (refine WC.em2 rfl (fun hp => ?_) (fun hp => ?_) <;> try (exfalso; first | omega | contradiction)))
          all_goals first
            | exact ⟨m - 1, by omega, _, decide (x ≤ 1000), i + 1, rfl, rfl, rfl, rfl, rfl, rfl, rfl, rfl, rfl, rfl, by omega, by rw [hrec, decide_eq_true_iff]; exact ⟨fun h => ⟨rfl, by omega, h⟩, fun h => h.2.2⟩⟩
            | exact ⟨m - 1, by omega, _, false, i + 1, rfl, rfl, rfl, rfl, rfl, rfl, rfl, rfl, rfl, rfl, by omega, by rw [hrec]; exact ⟨(fun h => by cases h), (fun h => by omega)⟩⟩
      · have hie : i = 6 := by omega
        subst hie
        have hz : inR r 6 ↔ okB 1000 r := Iff.rfl
        rw [hz] at hb
        repeat' (first | (refine WO.opE (by intro; simp (disch := omega) only [go_sem]; rfl) (by simp only [pt8, pt4, pt5, pt6]; rfl) ?_) | (refine WC.seq ?_) | (refine WC.region ?_) | (refine WO.nil ?_) | (simp only [fl1]) | (refine WC.no rfl ?_) | (refine WC.exit ?_) | (refine WC.block ?_))
        refine WC.loopI (fun m s => ∃ T b i, s = ⟨T, [some ⟨0, icells r⟩, some ⟨0, [lm]⟩, some ⟨0, icells v⟩, some ⟨0, [xc]⟩], []⟩ ∧ T.length = 164 ∧ gt T 0 = l ∧ gt T 5 = .pref 0 0 0 ∧ gt T 6 = .pref 1 0 0 ∧ gt T 7 = .pref 2 0 0 ∧ gt T 9 = .bool true ∧ gt T 10 = .pref 3 0 0 ∧ gt T 12 = .bool b ∧ gt T 14 = .int .i64 (i : Nat) ∧ m + i = cs.length ∧ (b = true ↔ okB 1000 r ∧ ∀ t, t < i → dotF (rw_ cs t) r = 0)) ?_ cs.length _ ⟨_, b, 0, rfl, rfl, rfl, rfl, rfl, rfl, rfl, rfl, by first | rfl | exact g12, rfl, by omega, ⟨fun h => ⟨hb.1 h, fun t ht => by omega⟩, fun h => hb.2 h.1⟩⟩
        clear g0 g5 g6 g7 g9 g10 g12 g13 f hm hb hz hi b m
        rintro m _ ⟨T, b, i, rfl, hT, g0, g5, g6, g7, g9, g10, g12, g14, hm, hb⟩
        obtain ⟨f, rfl⟩ := ex164 hT
        clear hT
        replace g0 : f 0 = l := g0
        replace g5 : f 5 = .pref 0 0 0 := g5
        replace g6 : f 6 = .pref 1 0 0 := g6
        replace g7 : f 7 = .pref 2 0 0 := g7
        replace g9 : f 9 = .bool true := g9
        replace g10 : f 10 = .pref 3 0 0 := g10
        replace g12 : f 12 = .bool b := g12
        replace g14 : f 14 = .int .i64 (i : Nat) := g14
        simp only [g0, g5, g6, g7, g9, g10, g12, g14]
        by_cases hi : i < cs.length
        · have i6 := hc.six hi
          have hat := hc.at hi
          have hcut := cut_row (t := tailr cs i) i6
          have hcr' : (rw_ cs i).map (AV.int .i64) = icells (rw_ cs i) := rfl
          rw [hcr'] at hat hcut
          have hok : okB 48 (rw_ cs i) := hN.1.2 i hi
          have c50 := fun m => x50 (v := rw_ cs i) (m := m) hxc (by omega) i6 (hxc.byC _)
          have e0 : errI (kerF cs) (rw_ cs i) = 0 := if_pos ⟨hN.2, hok⟩
          have et : tempR (kerF cs) (rw_ cs i) = true := by
            rw [temp_iff hN.2 hok]
            exact double_in hK (Sp.row hi)
          rw [e0, et] at c50
          have hrec : (okB 1000 r ∧ ∀ t, t < i + 1 → dotF (rw_ cs t) r = 0) ↔ (okB 1000 r ∧ ∀ t, t < i → dotF (rw_ cs t) r = 0) ∧ dotF (rw_ cs i) r = 0 := ⟨fun h => ⟨⟨h.1, fun t ht => h.2 t (by omega)⟩, h.2 i (by omega)⟩, fun h => ⟨h.1.1, fun t ht => by
            by_cases e : t = i
            · subst e; exact h.2
            · exact h.1.2 t (by omega)⟩⟩
          rw [← hb] at hrec
          cases b
          · clear hb
            have hrec : (false = true) ↔ (okB 1000 r ∧ ∀ t, t < i + 1 → dotF (rw_ cs t) r = 0) := by rw [hrec]; simp
            repeat' (first | (refine WO.yes rfl ?_) | (refine WO.opE (by intro; simp (disch := omega) only [go_sem]; rfl) (by simp only [pt8, pt0, pt1, pt2, pt4, pt5, pt6, pt7]; rfl) ?_) | (refine WO.opE (by intro; exact ev_lenS (by simp only [go_sem]; first | rfl | assumption)) (by simp only [pt8, pt7]; rfl) ?_) | (refine WT.spec rfl rfl (fun V => c50 ⟨V, []⟩) (by simp only [pt8, pt1]; rfl) ?_) | (refine WC.seq ?_) | (refine WC.region ?_) | (refine WO.nil ?_) | (simp only [fl1, fl4, fl10]) | (refine WC.drawT ?_) | (refine WT.nil ?_) | (refine WT.no rfl (by simp only [pt8, pt0, pt1, pt2, pt4, pt5, pt6, pt7]; rfl) ?_) | (refine WT.free rfl (by intro; simp (disch := omega) only [go_sem, Zz.look, hat, hcut, cutx]; rfl) rfl (by simp only [pt8, pt0, pt2, pt3, pt4, pt5, pt6, pt7]; rfl) ?_) | (refine WT.big rfl rfl (by intro; simp (disch := omega) only [go_sem, Zz.look, hcut, cutx]; rfl) (by simp (disch := omega) only [go_sem, touch]; rfl) (by first | exact .inl rfl | exact .inr (apart_nil _) | exact .inr trivial | (right; apply apart_mk; simp only [apartL, List.nil_append, List.cons_append, List.getElem?_cons_succ, List.getElem?_cons_zero, Tch.free, and_true, true_and]; first | done | omega)) (by simp only [pt8, pt0, pt4]; rfl) ?_) | (refine WC.no rfl ?_) | (refine WC.skip ?_) | (refine WC.block ?_) | (refine WC.em2 rfl (fun hp => ?_) (fun hp => ?_) <;> try (exfalso; first | omega | contradiction)))
            exact ⟨m - 1, by omega, _, false, i + 1, rfl, rfl, rfl, rfl, rfl, rfl, rfl, rfl, rfl, rfl, by omega, hrec⟩
          · have hr1 := (hb.1 rfl).1
            have c64 := fun m => s64 (m := m) i6 hr6 hok hr1 (by decide)
            generalize dotF (rw_ cs i) r = d at *
            repeat' (first | (refine WO.yes rfl ?_) | (refine WO.opE (by intro; simp (disch := omega) only [go_sem]; rfl) (by simp only [pt8, pt0, pt1, pt2, pt4, pt5, pt6, pt7]; rfl) ?_) | (refine WO.opE (by intro; exact ev_lenS (by simp only [go_sem]; first | rfl | assumption)) (by simp only [pt8, pt7]; rfl) ?_) | (refine WT.spec rfl rfl (fun V => c50 ⟨V, []⟩) (by simp only [pt8, pt1]; rfl) ?_) | (refine WT.spec rfl rfl (fun V => c64 ⟨V, []⟩) (by simp only [pt8, pt1]; rfl) ?_) | (refine WC.seq ?_) | (refine WC.region ?_) | (refine WO.nil ?_) | (simp only [fl1, fl4, fl10]) | (refine WC.drawT ?_) | (refine WT.nil ?_) | (refine WT.yes rfl ?_) | (refine WT.free rfl (by intro; simp (disch := omega) only [go_sem, Zz.look, hat, hcut, cutx, hcr]; rfl) rfl (by simp only [pt8, pt0, pt2, pt3, pt4, pt5, pt6, pt7]; rfl) ?_) | (refine WT.big rfl rfl (by intro; simp (disch := omega) only [go_sem, Zz.look, hcut, cutx, hcr]; rfl) (by simp (disch := omega) only [go_sem, touch]; rfl) (by first | exact .inl rfl | exact .inr (apart_nil _) | exact .inr trivial | (right; apply apart_mk; simp only [apartL, List.nil_append, List.cons_append, List.getElem?_cons_succ, List.getElem?_cons_zero, Tch.free, and_true, true_and]; first | done | omega)) (by simp only [pt8, pt0, pt4, pt7]; rfl) ?_) | (refine WC.no rfl ?_) | (refine WC.skip ?_) | (refine WC.block ?_) | (refine WC.em2 rfl (fun hp => ?_) (fun hp => ?_) <;> try (exfalso; first | omega | contradiction)))
            exact ⟨m - 1, by omega, _, decide (d = 0), i + 1, rfl, rfl, rfl, rfl, rfl, rfl, rfl, rfl, rfl, rfl, by omega, by rw [hrec, decide_eq_true_iff]; exact ⟨fun h => ⟨rfl, h⟩, fun h => h.2⟩⟩
        · have hie : i = cs.length := by omega
          subst hie
          have hin : b = true → errD (kerF cs) r = 0 → decide (memD (kerF cs) r) = true := fun h1 h2 => decide_eq_true ⟨h2, (memD_iff h6k hr6 h2).2 ((hK.sp _).2 fun i hi => (hb.1 h1).2 i hi)⟩
          clear hb hm hi
          generalize decide (memD (kerF cs) r) = q at *
          generalize errD (kerF cs) r = e at *
          cases b
          · clear hin
            repeat' (first | (refine WO.yes rfl ?_) | (refine WO.noE rfl (by simp only [pt8, pt2, pt3, pt6, pt7]; rfl) ?_) | (refine WO.opE (by intro; simp (disch := omega) only [go_sem, Zz.look, hcr, cutx]; rfl) (by simp only [pt8, pt0, pt1, pt2, pt3, pt4, pt5, pt6, pt7]; rfl) ?_) | (refine WO.opE (by intro; exact ev_lenS (by simp only [go_sem]; first | rfl | assumption)) (by simp only [pt8, pt7]; rfl) ?_) | (refine WO.specE rfl rfl (c66 _) (by simp only [pt8, pt0]; rfl) ?_) | (refine WO.specE rfl rfl (c45 _) (by simp only [pt8, pt5]; rfl) ?_) | (refine WC.seq ?_) | (refine WC.region ?_) | (refine WO.nil ?_) | (simp only [fl1]) | (refine WC.no rfl ?_) | (refine WC.skip ?_) | (refine WC.exit ?_) | (refine WC.em2 rfl (fun hp => ?_) (fun hp => ?_) <;> try (exfalso; first | omega | contradiction)))
            exact ⟨by first | trivial | rfl, _, rfl, rfl, rfl, rfl, rfl⟩
          · have hin := hin rfl
            by_cases hd : e = 0
            · subst hd
              have hin := hin rfl
              subst hin
              repeat' (first | (refine WO.yes rfl ?_) | (refine WO.opE (by intro; simp (disch := omega) only [go_sem, Zz.look, hcr, cutx]; rfl) (by simp only [pt8, pt0, pt1, pt2, pt3, pt4, pt5, pt6, pt7]; rfl) ?_) | (refine WO.opE (by intro; exact ev_lenS (by simp only [go_sem]; first | rfl | assumption)) (by simp only [pt8, pt7]; rfl) ?_) | (refine WO.specE rfl rfl (c66 _) (by simp only [pt8, pt0]; rfl) ?_) | (refine WO.specE rfl rfl (c45 _) (by simp only [pt8, pt5]; rfl) ?_) | (refine WC.seq ?_) | (refine WC.region ?_) | (refine WO.nil ?_) | (simp only [fl1]) | (refine WC.no rfl ?_) | (refine WC.skip ?_) | (refine WC.exit ?_) | (refine WC.em2 rfl (fun hp => ?_) (fun hp => ?_) <;> try (exfalso; first | omega | contradiction)))
              exact ⟨by first | trivial | rfl, _, rfl, rfl, rfl, rfl, rfl⟩
            · clear hin
              repeat' (first | (refine WO.yes rfl ?_) | (refine WO.noE rfl (by simp only [pt8, pt6, pt7]; rfl) ?_) | (refine WO.opE (by intro; simp (disch := omega) only [go_sem, Zz.look, hcr, cutx]; rfl) (by simp only [pt8, pt0, pt1, pt2, pt3, pt4, pt5, pt6, pt7]; rfl) ?_) | (refine WO.opE (by intro; exact ev_lenS (by simp only [go_sem]; first | rfl | assumption)) (by simp only [pt8, pt7]; rfl) ?_) | (refine WO.specE rfl rfl (c66 _) (by simp only [pt8, pt0]; rfl) ?_) | (refine WO.specE rfl rfl (c45 _) (by simp only [pt8, pt5]; rfl) ?_) | (refine WC.seq ?_) | (refine WC.region ?_) | (refine WO.nil ?_) | (simp only [fl1]) | (refine WC.no rfl ?_) | (refine WC.skip ?_) | (refine WC.exit ?_) | (refine WO.em2 rfl (by intro hp; simp only [hp, decide_true]; rfl) (by intro hp; simp only [hp, decide_false]; rfl) (fun hp => ?_) (fun hp => ?_) <;> try (exfalso; first | omega | contradiction)) | (refine WC.em2 rfl (fun hp => ?_) (fun hp => ?_) <;> try (exfalso; first | omega | contradiction)))
              exact ⟨by first | trivial | rfl, _, rfl, rfl, rfl, rfl, rfl⟩
    · generalize errF cs = e at *
      repeat' (first | (refine WO.opE (by intro; simp (disch := omega) only [go_sem]; rfl) (by simp only [pt8, pt2, pt3]; rfl) ?_) | (refine WC.seq ?_) | (refine WC.region ?_) | (refine WO.nil ?_) | (simp only [fl1]) | (refine WC.skip ?_) | (refine WC.em2 rfl (fun hp => ?_) (fun hp => ?_) <;> try (exfalso; first | omega | contradiction)))
      exact ⟨by first | trivial | rfl, _, rfl, rfl, rfl, rfl, rfl⟩
  · rintro _ _ ⟨rfl, T, rfl, hT, g6, g7, g9⟩
    obtain ⟨f, rfl⟩ := ex164 hT
    clear hT
    replace g6 : f 6 = .pref 1 0 0 := g6
    replace g7 : f 7 = .pref 2 0 0 := g7
    replace g9 : f 9 = .bool true := g9
    simp only [g6, g7, g9]
    have cutm : Zz.cut [lm] 0 1 = some [lm] := rfl
    clear c55 hxc
    have c45 := fun m => x45 (m := m) hl hmax (hl.byC _)
    have c61 := fun m => s61 (m := m) hv6
    by_cases ht : VT rows
    · rw [decide_eq_true ht] at c45
      by_cases hv : okB 48 v
      · rw [decide_eq_true hv] at c61
        obtain ⟨xk, hxk, c52⟩ := x52 hl hmax
        have c52 := fun m => c52 m lm (hl.byC _)
        have e1 : kerT rows = kerF rows := if_pos ht
        have e2 : errT rows = 0 := if_pos ht
        have e3 : errI rows v = 0 := if_pos ⟨ht, hv⟩
        rw [e1] at hxk
        rw [e2] at c52
        have c50 := fun m => x50 (v := v) (m := m) hl hmax hv6 (hl.byC _)
        rw [e3] at c50
        have hkl : (kerF rows).length ≤ 6 := by
          have h1 := kern_len ht.2.2.1 h6
          have e3 : kernR rows = kerF rows := if_pos ht.2.2.1
          rw [e3] at h1
          omega
        obtain ⟨x2, hx2, d55⟩ := x55 hxk (by omega)
        have d55 := fun m => d55 m xk (hxk.byVal _)
        have hx2c := hx2.cells
        unfold AV.cells at hx2c
        have cut2 : Zz.cut [x2] 0 1 = some [x2] := rfl
        have ov2 : ∀ a : AV, Zz.over [a] 0 [x2] = some [x2] := fun _ => rfl
        rcases errF_ker h6 ht with he | he | he
        · have hN : fromC (kerF rows) ∧ VT (kerF (kerF rows)) := errF_zero he
          rw [show fromR (kerF rows) = kerF (kerF rows) from if_pos hN] at hx2
          have hl2 := hN.2.1.2
          have d50 := fun m => x50 (v := v) (m := m) hx2 (by omega) hv6 (hx2.byC _)
          rw [show errI (kerF (kerF rows)) v = 0 from if_pos ⟨hN.2, hv⟩, temp_twice h6 ht hv hN.1.1 hN.2] at d50
          rw [he] at d55
          generalize tempR rows v = b at *
          cases b
          all_goals
            repeat' (first | (refine WO.yes rfl ?_) | (refine WO.opE (by intro; simp (disch := omega) only [go_sem, Zz.look, Nat.reduceAdd, hcv, cutm, cut2]; rfl) (by simp only [pt8, pt0, pt1, pt2, pt3, pt4, pt5, pt6, pt7]; rfl) ?_) | (refine WO.opN (by intro; simp (disch := omega) only [go_sem, Zz.look, Option.bind_eq_bind, ov2]; rfl) ?_) | (refine WO.specE rfl rfl (c45 _) (by simp only [pt8, pt3]; rfl) ?_) | (refine WO.specE rfl rfl (c61 _) (by simp only [pt8, pt7]; rfl) ?_) | (refine WO.specE rfl rfl (c52 _) (by simp only [pt8, pt5]; rfl) ?_) | (refine WO.specE rfl rfl (c50 _) (by simp only [pt8, pt3]; rfl) ?_) | (refine WO.specE rfl rfl (d55 _) (by simp only [pt8, pt6]; rfl) ?_) | (refine WO.specE rfl rfl (d50 _) (by simp only [pt8, pt7]; rfl) ?_) | (refine WC.seq ?_) | (refine WC.region ?_) | (refine WO.nil ?_) | (simp only [fl1]) | (refine WC.no rfl ?_) | (refine WC.skip ?_) | (refine WC.ret ?_))
            exact ⟨_, rfl, rfl⟩
        · rw [he] at d55
          repeat' (first | (refine WO.yes rfl ?_) | (refine WO.noE rfl (by simp only [pt8, pt0, pt1]; rfl) ?_) | (refine WO.opE (by intro; simp (disch := omega) only [go_sem, Zz.look, Nat.reduceAdd, hcv, cutm]; rfl) (by simp only [pt8, pt0, pt1, pt2, pt3, pt4, pt5, pt6, pt7]; rfl) ?_) | (refine WO.opN (by intro; simp (disch := omega) only [go_sem, Zz.look, Option.bind_eq_bind, ov2]; rfl) ?_) | (refine WO.specE rfl rfl (c45 _) (by simp only [pt8, pt3]; rfl) ?_) | (refine WO.specE rfl rfl (c61 _) (by simp only [pt8, pt7]; rfl) ?_) | (refine WO.specE rfl rfl (c52 _) (by simp only [pt8, pt5]; rfl) ?_) | (refine WO.specE rfl rfl (c50 _) (by simp only [pt8, pt3]; rfl) ?_) | (refine WO.specE rfl rfl (d55 _) (by simp only [pt8, pt6]; rfl) ?_) | (refine WC.seq ?_) | (refine WC.region ?_) | (refine WO.nil ?_) | (simp only [fl1, fl2]) | (refine WC.yes rfl ?_) | (refine WC.no rfl ?_) | (refine WC.skip ?_) | (refine WC.ret ?_))
          exact ⟨_, rfl, rfl⟩
        · rw [he] at d55
          repeat' (first | (refine WO.yes rfl ?_) | (refine WO.opE (by intro; simp (disch := omega) only [go_sem, Zz.look, Nat.reduceAdd, hcv, cutm]; rfl) (by simp only [pt8, pt0, pt1, pt2, pt3, pt4, pt5, pt6, pt7]; rfl) ?_) | (refine WO.opN (by intro; simp (disch := omega) only [go_sem, Zz.look, Option.bind_eq_bind, ov2]; rfl) ?_) | (refine WO.specE rfl rfl (c45 _) (by simp only [pt8, pt3]; rfl) ?_) | (refine WO.specE rfl rfl (c61 _) (by simp only [pt8, pt7]; rfl) ?_) | (refine WO.specE rfl rfl (c52 _) (by simp only [pt8, pt5]; rfl) ?_) | (refine WO.specE rfl rfl (c50 _) (by simp only [pt8, pt3]; rfl) ?_) | (refine WO.specE rfl rfl (d55 _) (by simp only [pt8, pt6]; rfl) ?_) | (refine WC.seq ?_) | (refine WC.region ?_) | (refine WO.nil ?_) | (simp only [fl1, fl2]) | (refine WC.yes rfl ?_) | (refine WC.no rfl ?_) | (refine WC.skip ?_) | (refine WC.ret ?_))
          exact ⟨_, rfl, rfl⟩
      · rw [decide_eq_false hv] at c61
        repeat' (first | (refine WO.yes rfl ?_) | (refine WO.opE (by intro; simp (disch := omega) only [go_sem, Zz.look, hcv, cutm]; rfl) (by simp only [pt8, pt0, pt1, pt2, pt4, pt5, pt6]; rfl) ?_) | (refine WO.specE rfl rfl (c45 _) (by simp only [pt8, pt3]; rfl) ?_) | (refine WO.specE rfl rfl (c61 _) (by simp only [pt8, pt7]; rfl) ?_) | (refine WC.seq ?_) | (refine WC.region ?_) | (refine WO.nil ?_) | (simp only [fl1, fl2]) | (refine WC.yes rfl ?_) | (refine WC.ret ?_))
        exact ⟨_, rfl, rfl⟩
    · rw [decide_eq_false ht] at c45
      repeat' (first | (refine WO.noE rfl (by simp only [pt8, pt0, pt6, pt7]; rfl) ?_) | (refine WO.opE (by intro; simp (disch := omega) only [go_sem, Zz.look, cutm]; rfl) (by simp only [pt8, pt0, pt1, pt2, pt4, pt5]; rfl) ?_) | (refine WO.specE rfl rfl (c45 _) (by simp only [pt8, pt3]; rfl) ?_) | (refine WC.seq ?_) | (refine WC.region ?_) | (refine WO.nil ?_) | (simp only [fl1, fl2]) | (refine WC.yes rfl ?_) | (refine WC.ret ?_))
      exact ⟨_, rfl, rfl⟩
end Go.Proofs.Ytnilimjkibimcaa

