import Derived.Test.YtnilimjkibimcaaLm
import Derived.Test.YtnilimjkibimcaaPl
set_option linter.unusedSimpArgs false
set_option linter.unusedVariables false

namespace Go.Proofs.Ytnilimjkibimcaa
open Go.Zz
set_option maxRecDepth 100000
set_option maxHeartbeats 8000000
theorem catR {x y : AV} {a b : List (List Int)} (hx : RwL x a) (hy : RwL y b) (ha : a.length ≤ 8) (hb : b.length ≤ 8) {L : List (Option ALoop)} : ∃ v1 H1 v2 q2 H2, appendAV 6 48 ⟨[some ⟨0, []⟩], L⟩ (.sref 0 0 0 6 0 (some 0)) x = some (v1, ⟨H1, L⟩) ∧ appendAV 6 48 ⟨H1, L⟩ v1 y = some (v2, ⟨H2, L⟩) ∧ GS 6 H2 v2 q2 (flatR (a ++ b)) ∧ slen v2 = some (a.length + b.length) := by
  have g0 : GS 6 [some ⟨0, []⟩] (.sref 0 0 0 6 0 (some 0)) 0 [] := .inr (.inl ⟨0, rfl, rfl, rfl⟩)
  have x6 := rwl_six hx
  have y6 := rwl_six hy
  have sx : ∀ H, scells H 6 x = some (flatR a) := fun H => SL.scells hx H
  have sy : ∀ H, scells H 6 y = some (flatR b) := fun H => SL.scells hy H
  obtain ⟨v1, q1, H1, a1, a2, _⟩ := g0.appendX (L := L) (bytes := 48) (n := a.length) (sx _) hx.len (flatR_len x6) (by decide) ⟨by simp; omega, by simp; omega⟩
  rw [List.nil_append] at a2
  have hd : (flatR a).length / 6 = a.length := by rw [flatR_len x6]; omega
  obtain ⟨v2, q2, H2, b1, b2, _⟩ := a2.appendX (L := L) (bytes := 48) (n := b.length) (sy _) hy.len (flatR_len y6) (by decide) ⟨by rw [hd]; omega, by rw [hd]; omega⟩
  rw [← flatR_cat] at b2
  have hl := b2.len (by decide)
  rw [flatR_len (by
    intro r hr
    rcases List.mem_append.1 hr with h | h
    · exact x6 r h
    · exact y6 r h), List.length_append] at hl
  exact ⟨v1, H1, v2, q2, H2, a1, b1, b2, by rw [hl]; congr 1; omega⟩
theorem gs_row {G : Hp} {u : AV} {q : Nat} {rows : List (List Int)} (h : GS 6 G u q (flatR rows)) (h6 : ∀ r ∈ rows, r.length = 6) {i : Nat} (hi : i < rows.length) : ∃ g, indexAddrAV 6 u (.int .i64 (i : Int)) = some (.pref q g (i * 6)) ∧ Zz.look G q g = some (flatR rows) ∧ Zz.cut (flatR rows) (i * 6) 6 = some (icells (rw_ rows i)) ∧ q < G.length := by
  have hl := flatR_len h6
  obtain ⟨g, n, rfl, hn, hk, hq⟩ := h.ref (fun h0 => by rw [h0] at hl; simp at hl; omega)
  refine ⟨g, ?_, hk, flatR_cut h6 hi, hq⟩
  rw [ia_sref, idx_nat (by omega)]
  simp
def oth (a b : List (List Int)) (j : Nat) : List (List Int) := if j < a.length then b else a
theorem run17 {x y : AV} {a b : List (List Int)} (hx : RwL x a) (hy : RwL y b) (ha : a.length < 9223372036854775807) (hb : b.length < 9223372036854775807) : WF N21 (.func 17 [] []) [x, y] ⟨[], []⟩ fun u m' => u = .bool true := by
  have c65 := fun m => s65 (m := m)
  have a6 : Six a := fun i hi => hx.six hi
  have b6 : Six b := fun i hi => hy.six hi
  have c26 := fun m => x26 (m := m) hx ha (hx.byVal _)
  have d26 := fun m => x26 (m := m) hy hb (hy.byVal _)
  have hxl := hx.len
  by_cases hv : VM a
  · rw [decide_eq_true hv] at c26
    by_cases hw : VM b
    · rw [decide_eq_true hw] at d26
      have c70 := fun m => x70 (m := m) hx hy ha hb (hx.byVal _) (hy.byVal _)
      rw [show errS a b = 0 from if_pos ⟨hv, hw⟩] at c70
      have hva := hv.1
      have hvb := hw.1
      have ab6 : ∀ r ∈ a ++ b, r.length = 6 := fun r hr => by
        rcases List.mem_append.1 hr with h | h
        · exact rwl_six hx r h
        · exact rwl_six hy r h
      have hsame := same_iff hv hw a6 b6
      generalize hs : decide (sameS a b) = s at *
      obtain ⟨v1, H1, u, q, H2, a1, b1, hG, hul⟩ := catR hx hy hva hvb (L := [])
      refine WF.fnE rfl (fn_of Try.func17 cir17) (by show 2 ≤ 77; decide) ?_
      unfold ir17; dsimp only [k0, kI, mV, oO, oG]
      simp only [padTo, List.replicate, List.nil_append, List.append_nil]
      repeat' (first | (refine WO.yes rfl ?_) | (refine WO.opE (by intro; simp (disch := omega) only [go_sem, fillP, zeros]; rfl) (by simp only [pt8, pt0, pt1, pt2, pt3, pt4, pt5, pt6, pt7]; rfl) ?_) | (refine WO.opE (by intro; exact ev_lenS (by simp only [go_sem]; first | rfl | assumption)) (by simp only [pt8, pt4]; rfl) ?_) | (refine WO.specE rfl rfl (c65 _) (by simp only [pt8, pt7]; rfl) ?_) | (refine WO.specE rfl rfl (c26 _) (by simp only [pt8, pt1]; rfl) ?_) | (refine WO.specE rfl rfl (d26 _) (by simp only [pt8, pt5]; rfl) ?_) | (refine WO.specE rfl rfl (c70 _) (by simp only [pt8, pt4]; rfl) ?_) | (refine WO.opE (by intro; rw [ev_append]; exact a1) (by simp only [pt8, pt1]; rfl) ?_) | (refine WO.opE (by intro; rw [ev_append]; exact b1) (by simp only [pt8, pt3]; rfl) ?_) | (refine WC.seq ?_) | (refine WC.region ?_) | (refine WO.nil ?_) | (simp only [fl1]) | (refine WC.no rfl ?_) | (refine WC.skip ?_) | (refine WC.block ?_))
      refine WC.loopI (fun m t => ∃ T G p i, t = ⟨T, G, []⟩ ∧ T.length = 77 ∧ gt T 0 = x ∧ gt T 1 = y ∧ gt T 5 = .bool true ∧ gt T 6 = .bool s ∧ gt T 7 = .int .i64 0 ∧ gt T 8 = .bool p ∧ gt T 35 = u ∧ gt T 36 = .int .i64 ((a.length + b.length : Nat) : Int) ∧ gt T 37 = .int .i64 (i : Nat) ∧ m + i = a.length + b.length ∧ GS 6 G u q (flatR (a ++ b)) ∧ (∀ j, j < i → errD (oth a b j) (rw_ (a ++ b) j) = 0) ∧ (p = true ↔ ∀ j, j < i → memD (oth a b j) (rw_ (a ++ b) j))) ?_ (a.length + b.length) _ ⟨_, _, true, 0, rfl, rfl, rfl, rfl, rfl, rfl, rfl, rfl, rfl, rfl, rfl, by omega, hG, fun j hj => by omega, ⟨fun _ j hj => by omega, fun _ => rfl⟩⟩
      clear hG a1 b1 H1 H2 v1
      rintro m _ ⟨T, G, p, i, rfl, hT, g0, g1, g5, g6, g7, g8, g35, g36, g37, hm, hG, hE, hp⟩
      obtain ⟨f, rfl⟩ := ex77 hT
      clear hT
      replace g0 : f 0 = x := g0
      replace g1 : f 1 = y := g1
      replace g5 : f 5 = .bool true := g5
      replace g6 : f 6 = .bool s := g6
      replace g7 : f 7 = .int .i64 0 := g7
      replace g8 : f 8 = .bool p := g8
      replace g35 : f 35 = u := g35
      replace g36 : f 36 = .int .i64 ((a.length + b.length : Nat) : Int) := g36
      replace g37 : f 37 = .int .i64 (i : Nat) := g37
      simp only [g0, g1, g5, g6, g7, g8, g35, g36, g37]
      by_cases hi : i < a.length + b.length
      · obtain ⟨g, hat, hlk, hcut, hq⟩ := gs_row hG ab6 (show i < (a ++ b).length by rw [List.length_append]; exact hi)
        have k6 : (rw_ (a ++ b) i).length = 6 := six_app a6 b6 _ (by rw [List.length_append]; exact hi)
        have hov := fun x0 x1 x2 x3 x4 x5 => icells_over6 k6 (x0 := x0) (x1 := x1) (x2 := x2) (x3 := x3) (x4 := x4) (x5 := x5)
        have hml : (icells (rw_ (a ++ b) i)).length = 6 := by rw [icells_len, k6]
        have hcr := icells_cut k6
        have hlk2 : ∀ R, Zz.look (G ++ R) q g = some (flatR (a ++ b)) := fun R => (look_left hq).trans hlk
        have hokr : okB 1000000000 (rw_ (a ++ b) i) := by
          by_cases h : i < a.length
          · rw [rw_app_l b h]; exact hv.2.1 i h
          · have e := rw_app_r a (b := b) (i - a.length)
            rw [show a.length + (i - a.length) = i by omega] at e
            rw [e]; exact hw.2.1 _ (by omega)
        obtain ⟨xo, o, ho, hxo, hoL⟩ : ∃ (xo : AV) (o : List (List Int)), oth a b i = o ∧ RwL xo o ∧ (i < a.length ∧ xo = y ∨ ¬ i < a.length ∧ xo = x) := by
          by_cases h : i < a.length
          · exact ⟨y, b, if_pos h, hy, .inl ⟨h, rfl⟩⟩
          · exact ⟨x, a, if_neg h, hx, .inr ⟨h, rfl⟩⟩
        have hvo : VM o ∧ o.length < 9223372036854775807 := by
          rw [← ho]
          unfold oth
          split
          · exact ⟨hw, hb⟩
          · exact ⟨hv, ha⟩
        have o6 : Six o := fun i hi => hxo.six hi
        obtain ⟨xm, hxm, c66⟩ := x66 hxo hvo.2 k6
        have c66 := fun m => c66 m xo (hxo.byVal _)
        have hE' : errD o (rw_ (a ++ b) i) = 0 → ∀ j, j < i + 1 → errD (oth a b j) (rw_ (a ++ b) j) = 0 := fun h j hj => by
          by_cases e : j = i
          · subst e; rw [ho]; exact h
          · exact hE j (by omega)
        have hp' : (∀ j, j < i + 1 → memD (oth a b j) (rw_ (a ++ b) j)) ↔ p = true ∧ memD o (rw_ (a ++ b) i) := by
          rw [hp, ← ho]
          exact ⟨fun h => ⟨fun j hj => h j (by omega), h i (by omega)⟩, fun h j hj => by
            by_cases e : j = i
            · subst e; exact h.2
            · exact h.1 j (by omega)⟩
        rcases mem_cases hvo.1 o6 k6 hokr with he | ⟨he, _⟩
        · rw [he] at c66
          generalize decide (memD o (rw_ (a ++ b) i)) = bm at *
          rcases hoL with ⟨hia, rfl⟩ | ⟨hia, rfl⟩
          all_goals
            repeat' (first | (refine WO.yes rfl ?_) | (refine WO.opE (by intro; simp (disch := omega) only [go_sem, hat, hlk, hcut, hcr, lk0]; rfl) (by simp only [pt8, pt0, pt1, pt2, pt3, pt4, pt5, pt6, pt7]; rfl) ?_) | (refine WO.opN (by intro; simp (disch := omega) only [go_sem, Option.bind_eq_bind, app_s0, hov, hml, lk0]; rfl) ?_) | (refine WO.opE (by intro; exact ev_lenS (by simp only [go_sem]; first | rfl | assumption)) (by simp only [pt8, pt5]; rfl) ?_) | (refine WO.specE rfl rfl (c66 _) (by simp only [pt8, pt3]; rfl) ?_) | (refine WC.seq ?_) | (refine WC.region ?_) | (refine WO.nil ?_) | (simp only [fl1, fl2, fl5, fl8]) | (refine WC.yes rfl ?_) | (refine WC.skip ?_) | (refine WC.ret ?_) | (refine WC.block ?_) | (refine WC.em2 rfl (fun hp => ?_) (fun hp => ?_) <;> try (exfalso; first | omega | contradiction)))
            exact ⟨_, rfl, rfl⟩
        · rw [he] at c66
          have hE' := hE' he
          have hp2 : (p && decide (memD o (rw_ (a ++ b) i))) = true ↔ ∀ j, j < i + 1 → memD (oth a b j) (rw_ (a ++ b) j) := by
            rw [hp']
            simp
          clear hp hp'
          generalize decide (memD o (rw_ (a ++ b) i)) = bm at *
          rcases hoL with ⟨hia, rfl⟩ | ⟨hia, rfl⟩
          all_goals
            cases p
            all_goals
              repeat' (first | (refine WO.yes rfl ?_) | (refine WO.noE rfl (by simp only [pt8, pt0]; rfl) ?_) | (refine WO.opE (by intro; simp (disch := omega) only [go_sem, hat, hlk, hcut, hcr, lk0]; rfl) (by simp only [pt8, pt0, pt1, pt2, pt3, pt4, pt5, pt6, pt7]; rfl) ?_) | (refine WO.opN (by intro; simp (disch := omega) only [go_sem, Option.bind_eq_bind, app_s0, hov, hml, lk0]; rfl) ?_) | (refine WO.opE (by intro; exact ev_lenS (by simp only [go_sem]; first | rfl | assumption)) (by simp only [pt8, pt5]; rfl) ?_) | (refine WO.specE rfl rfl (c66 _) (by simp only [pt8, pt3]; rfl) ?_) | (refine WC.seq ?_) | (refine WC.region ?_) | (refine WO.nil ?_) | (simp only [fl1, fl10]) | (refine WC.no rfl ?_) | (refine WC.skip ?_) | (refine WC.block ?_) | (refine WC.em2 rfl (fun hp => ?_) (fun hp => ?_) <;> try (exfalso; first | omega | contradiction)))
              exact ⟨m - 1, by omega, _, _, _, i + 1, rfl, rfl, rfl, rfl, rfl, rfl, rfl, rfl, rfl, rfl, rfl, by omega, hG.more _, hE', by simpa using hp2⟩
      · have hie : i = a.length + b.length := by omega
        have hps : p = s := by
          rw [Bool.eq_iff_iff, hp, ← hs, decide_eq_true_iff, hsame (fun t ht => ?_) (fun t ht => ?_)]
          · constructor
            · intro h
              refine ⟨fun t ht => ?_, fun t ht => ?_⟩
              · have := h t (by omega)
                rwa [show oth a b t = b from if_pos ht, rw_app_l b ht] at this
              · have := h (a.length + t) (by omega)
                rwa [show oth a b (a.length + t) = a from if_neg (by omega), rw_app_r] at this
            · intro h j hj
              by_cases hja : j < a.length
              · rw [show oth a b j = b from if_pos hja, rw_app_l b hja]
                exact h.1 j hja
              · have := h.2 (j - a.length) (by omega)
                have e := rw_app_r a (b := b) (j - a.length)
                rw [show a.length + (j - a.length) = j by omega] at e
                rw [show oth a b j = a from if_neg hja, e]
                exact this
          · have := hE t (by omega)
            rwa [show oth a b t = b from if_pos ht, rw_app_l b ht] at this
          · have := hE (a.length + t) (by omega)
            rwa [show oth a b (a.length + t) = a from if_neg (by omega), rw_app_r] at this
        subst hps
        clear hp hE hs hsame
        cases p
        all_goals
          repeat' (first | (refine WO.yes rfl ?_) | (refine WO.opE (by intro; simp (disch := omega) only [go_sem]; rfl) (by simp only [pt8, pt0, pt1, pt2, pt3, pt4, pt5, pt6, pt7]; rfl) ?_) | (refine WC.seq ?_) | (refine WC.region ?_) | (refine WO.nil ?_) | (simp only [fl1]) | (refine WC.exit ?_) | (refine WC.ret ?_) | (refine WC.em2 rfl (fun hp => ?_) (fun hp => ?_) <;> try (exfalso; first | omega | contradiction)))
          exact ⟨_, rfl, rfl⟩
    · rw [decide_eq_false hw] at d26
      refine WF.fnE rfl (fn_of Try.func17 cir17) (by show 2 ≤ 77; decide) ?_
      unfold ir17; dsimp only [k0, kI, mV, oO, oG]
      simp only [padTo, List.replicate, List.nil_append, List.append_nil]
      repeat' (first | (refine WO.yes rfl ?_) | (refine WO.opE (by intro; simp (disch := omega) only [go_sem]; rfl) (by simp only [pt8, pt0, pt2, pt3, pt4, pt5, pt6, pt7]; rfl) ?_) | (refine WO.specE rfl rfl (c65 _) (by simp only [pt8, pt7]; rfl) ?_) | (refine WO.specE rfl rfl (c26 _) (by simp only [pt8, pt1]; rfl) ?_) | (refine WO.specE rfl rfl (d26 _) (by simp only [pt8, pt5]; rfl) ?_) | (refine WC.seq ?_) | (refine WC.region ?_) | (refine WO.nil ?_) | (simp only [fl1, fl2]) | (refine WC.yes rfl ?_) | (refine WC.ret ?_))
      exact ⟨_, rfl, rfl⟩
  · rw [decide_eq_false hv] at c26
    refine WF.fnE rfl (fn_of Try.func17 cir17) (by show 2 ≤ 77; decide) ?_
    unfold ir17; dsimp only [k0, kI, mV, oO, oG]
    simp only [padTo, List.replicate, List.nil_append, List.append_nil]
    repeat' (first | (refine WO.noE rfl (by simp only [pt8, pt4, pt5, pt6]; rfl) ?_) | (refine WO.opE (by intro; simp (disch := omega) only [go_sem]; rfl) (by simp only [pt8, pt0, pt2, pt3, pt4, pt5, pt7]; rfl) ?_) | (refine WO.specE rfl rfl (c65 _) (by simp only [pt8, pt7]; rfl) ?_) | (refine WO.specE rfl rfl (c26 _) (by simp only [pt8, pt1]; rfl) ?_) | (refine WC.seq ?_) | (refine WC.region ?_) | (refine WO.nil ?_) | (simp only [fl1, fl2]) | (refine WC.yes rfl ?_) | (refine WC.ret ?_))
    exact ⟨_, rfl, rfl⟩
end Go.Proofs.Ytnilimjkibimcaa

