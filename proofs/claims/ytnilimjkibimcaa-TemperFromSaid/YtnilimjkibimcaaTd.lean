import Derived.Test.YtnilimjkibimcaaTc
import Derived.Test.YtnilimjkibimcaaPm
set_option linter.unusedSimpArgs false
set_option linter.unusedVariables false

namespace Go.Proofs.Ytnilimjkibimcaa
open Go.Zz
set_option maxRecDepth 100000
set_option maxHeartbeats 8000000
def kerT (rows : List (List Int)) : List (List Int) := if VT rows then kerF rows else []
def errT (rows : List (List Int)) : Int := if VT rows then 0 else 1
theorem x52 {l : AV} {rows : List (List Int)} (hl : RwL l rows) (hmax : rows.length < 9223372036854775807) : ∃ x, RwL x (kerT rows) ∧ ∀ m l', Zz.byC m.heap l' = some l → borrowX T13 52 [.agg [l']] m = some (.tuple [x, .int .i64 (errT rows)], m) := by
  have hlc := hl.cells
  unfold AV.cells at hlc
  have h6 : Six rows := fun i hi => hl.six hi
  have c45 := fun m => x45 (m := m) hl hmax (hl.byC _)
  by_cases ht : VT rows
  · rw [decide_eq_true ht] at c45
    have e1 : kerT rows = kerF rows := if_pos ht
    have e2 : errT rows = 0 := if_pos ht
    have e3 : kernR rows = kerF rows := if_pos ht.2.2.1
    have e4 : errC rows = 0 := if_pos ht.2.2.1
    rw [e1, e2]
    obtain ⟨x, hx, hB⟩ := r30 hl hmax
    obtain ⟨new, v', c30, g30, hrx⟩ := hB [some ⟨0, [l]⟩] []
    have c30 := c30 l (hl.byVal _)
    rw [e3] at hx
    rw [e4] at c30
    have hn : Zz.newA ([some ⟨0, [l]⟩] ++ new) v' = some x := (GS.newA g30).trans hrx
    refine ⟨x, hx, fun m l' h0 => borrowX_of (byVals_cons (byMap h0) rfl) ?_⟩
    refine WF.fnE rfl (fn_of Try.func52 cir52) (by show 1 ≤ 12; decide) ?_
    unfold ir52; dsimp only [k0, kI, mV, oO, oG]
    simp only [padTo, List.replicate, List.nil_append, List.append_nil]
    repeat' (first | (refine WO.opE (by intro; simp (disch := omega) only [go_sem, Zz.look]; rfl) (by simp only [pt8, pt0, pt1, pt2, pt3, pt4, pt6, pt7]; rfl) ?_) | (refine WO.specE rfl rfl (c45 _) (by simp only [pt5]; rfl) ?_) | (refine WO.specE rfl rfl (c30) (by simp only [pt8, pt1]; rfl) ?_) | (refine WC.seq ?_) | (refine WC.region ?_) | (refine WO.nil ?_) | (simp only [fl1]) | (refine WC.no rfl ?_) | (refine WC.skip ?_) | (refine WC.ret ?_))
    exact ⟨_, rfl, newV_two hn⟩
  · rw [decide_eq_false ht] at c45
    have e1 : kerT rows = [] := if_neg ht
    have e2 : errT rows = 1 := if_neg ht
    rw [e1, e2]
    refine ⟨.snil, rwl_nil, fun m l' h0 => borrowX_of (byVals_cons (byMap h0) rfl) ?_⟩
    refine WF.fnE rfl (fn_of Try.func52 cir52) (by show 1 ≤ 12; decide) ?_
    unfold ir52; dsimp only [k0, kI, mV, oO, oG]
    simp only [padTo, List.replicate, List.nil_append, List.append_nil]
    repeat' (first | (refine WO.opE (by intro; simp (disch := omega) only [go_sem, Zz.look]; rfl) (by simp only [pt1, pt2, pt3, pt4, pt6]; rfl) ?_) | (refine WO.specE rfl rfl (c45 _) (by simp only [pt5]; rfl) ?_) | (refine WC.seq ?_) | (refine WC.region ?_) | (refine WO.nil ?_) | (simp only [fl1, fl2]) | (refine WC.yes rfl ?_) | (refine WC.ret ?_))
    exact ⟨_, rfl, rfl⟩
noncomputable def T14 : Env := T13.put 52 (borrowX T13 52)
theorem T14_ok : EnvOk Try.prog T14 := Env.put_ok T13_ok (borrowX_ok T13_ok (callable Try.func52 (by kernel_rfl)))
def tuneN (rows gens : List (List Int)) (v : List Int) (i k : Nat) : Int := psumF (fun t => (imgF rows v).getD t 0 * ent gens t k) i
def tuneF (rows gens : List (List Int)) (v : List Int) : List Int := (List.range 6).map fun k => tuneN rows gens v rows.length k
theorem tune_at {rows gens : List (List Int)} {v : List Int} {k : Nat} (hk : k < 6) : (tuneF rows gens v).getD k 0 = tuneN rows gens v rows.length k := by
  unfold tuneF
  simp [List.getD_eq_getElem?_getD, hk]
theorem img_bd {rows : List (List Int)} {v : List Int} (hr : ∀ i, i < rows.length → okB 400 (rw_ rows i)) (hv : okB 48 v) {t : Nat} (ht : t < rows.length) : -115200 ≤ (imgF rows v).getD t 0 ∧ (imgF rows v).getD t 0 ≤ 115200 := by
  rw [img_at ht]
  have := dot_bd (hr t ht) hv 6 (Nat.le_refl _)
  unfold dotF
  omega
theorem tune_bd {rows gens : List (List Int)} {v : List Int} (hr : ∀ i, i < rows.length → okB 400 (rw_ rows i)) (hv : okB 48 v) (hg : ∀ i, i < gens.length → okB 576 (rw_ gens i)) (hl : gens.length = rows.length) {k : Nat} (hk : k < 6) : ∀ i, i ≤ rows.length → -(i * 66355200) ≤ tuneN rows gens v i k ∧ tuneN rows gens v i k ≤ i * 66355200
  | 0, _ => by simp [tuneN, psumF]
  | i + 1, hi => by
    have ih := tune_bd hr hv hg hl hk i (by omega)
    have hm := mul_bb (img_bd hr hv (show i < rows.length by omega)) (hg i (by omega) k hk)
    have e : tuneN rows gens v (i + 1) k = tuneN rows gens v i k + (imgF rows v).getD i 0 * (rw_ gens i).getD k 0 := rfl
    rw [e]
    omega
theorem f114 {E : Env} (hE : E.spec 114 = none) (hF : E.fn 114 = some ir114) (h110 : E.spec 110 = some (borrowR T10 110)) {l gx : AV} {rows gens : List (List Int)} {v : List Int} (hl : RwL l rows) (h3 : rows.length ≤ 3) (hr : ∀ i, i < rows.length → okB 400 (rw_ rows i)) (hv6 : v.length = 6) (hv : okB 48 v)
    (hgx : RwL gx gens) (hgl : gens.length = rows.length) (hg : ∀ i, i < gens.length → okB 576 (rw_ gens i)) {H : Hp} {L : List (Option ALoop)} :
    WF E (.func 114 [] []) [.func 110 [.agg [l]] [], gx, .agg (icells v)] ⟨H, L⟩ fun y m' => y = .agg (icells (tuneF rows gens v)) ∧ ∃ R, m' = ⟨H ++ R, L⟩ := by
  have hmv : (icells v).length = 6 := by rw [icells_len, hv6]
  have hcv := icells_cut hv6
  have hil : (icells (imgF rows v)).length = rows.length := by rw [icells_len, img_len]
  refine WF.fnE hE hF (by show 3 ≤ 40; decide) ?_
  unfold ir114; dsimp only [k0, kI, mV, oO, oG]
  simp only [padTo, List.replicate, List.nil_append, List.append_nil]
  repeat' (first | (refine WO.opE (by intro; simp (disch := omega) only [go_sem, List.append_assoc, List.length_append, Nat.reduceAdd, hcv, lk0, List.cons_append, List.nil_append]; rfl) (by simp only [pt8, pt4, pt5, pt6, pt7]; rfl) ?_) | (refine WC.seq ?_) | (refine WC.region ?_) | (refine WO.nil ?_) | (simp only [fl1]))
  have c110 : borrowR T10 110 [.agg [l], .agg (icells v)] ⟨H ++ [some ⟨0, icells v⟩, some ⟨0, icells zer6⟩, some ⟨0, icells zer6⟩], L⟩ = some (.sref (H.length + 3) 0 0 1 rows.length (some rows.length), ⟨H ++ [some ⟨0, icells v⟩, some ⟨0, icells zer6⟩, some ⟨0, icells zer6⟩, some ⟨0, icells (imgF rows v)⟩], L⟩) := by
    have := r110 (m := ⟨H ++ [some ⟨0, icells v⟩, some ⟨0, icells zer6⟩, some ⟨0, icells zer6⟩], L⟩) hl h3 hr hv6 hv (hl.byC _)
    simpa using this
  refine WO.callE rfl rfl (WF.spec h110 c110 ⟨rfl, rfl⟩) (by simp only [pt8, pt6]; rfl) ?_
  repeat' (first | (refine WO.opE (by intro; simp (disch := omega) only [go_sem]; rfl) (by simp only [pt8, pt0, pt7]; rfl) ?_) | (refine WO.nil ?_) | (refine WC.block ?_))
  refine WC.loopI (fun m s => ∃ T w i, s = ⟨T, H ++ [some ⟨0, icells v⟩, some ⟨0, icells zer6⟩, some ⟨0, icells w⟩, some ⟨0, icells (imgF rows v)⟩], L⟩ ∧ T.length = 40 ∧ gt T 1 = gx ∧ gt T 6 = .pref (H.length + 1) 0 0 ∧ gt T 7 = .pref (H.length + 2) 0 0 ∧ gt T 14 = .sref (H.length + 3) 0 0 1 rows.length (some rows.length) ∧ gt T 15 = .int .i64 (rows.length : Nat) ∧ gt T 16 = .int .i64 (i : Nat) ∧ m + i = rows.length ∧ w.length = 6 ∧ ∀ k, k < 6 → w.getD k 0 = tuneN rows gens v i k) ?_ rows.length _ ⟨_, zer6, 0, rfl, rfl, rfl, rfl, rfl, rfl, rfl, rfl, by omega, rfl, fun k hk => by
    show _ = 0
    have : k = 0 ∨ k = 1 ∨ k = 2 ∨ k = 3 ∨ k = 4 ∨ k = 5 := by omega
    rcases this with rfl | rfl | rfl | rfl | rfl | rfl <;> rfl⟩
  rintro m _ ⟨T, w, i, rfl, hT, g1, g6, g7, g14, g15, g16, hm, hwl, hw⟩
  obtain ⟨f, rfl⟩ := ex40 hT
  clear hT
  replace g1 : f 1 = gx := g1
  replace g6 : f 6 = .pref (H.length + 1) 0 0 := g6
  replace g7 : f 7 = .pref (H.length + 2) 0 0 := g7
  replace g14 : f 14 = .sref (H.length + 3) 0 0 1 rows.length (some rows.length) := g14
  replace g15 : f 15 = .int .i64 (rows.length : Nat) := g15
  replace g16 : f 16 = .int .i64 (i : Nat) := g16
  simp only [g1, g6, g7, g14, g15, g16]
  by_cases hi : i < rows.length
  · have h6 := hgx.six (i := i) (by omega)
    have hat := hgx.at (i := i) (by omega)
    have hcut := cut_row (t := tailr gens i) h6
    have hcr : (rw_ gens i).map (AV.int .i64) = icells (rw_ gens i) := rfl
    rw [hcr] at hat hcut
    have hml : (icells (rw_ gens i)).length = 6 := by rw [icells_len, h6]
    have hix : indexAddrAV 1 (.sref (H.length + 3) 0 0 1 rows.length (some rows.length)) (.int .i64 (i : Int)) = some (.pref (H.length + 3) 0 i) := by rw [ia_sref, idx_nat hi]; simp
    have hia := icells_at (r := imgF rows v) (j := i) (by rw [img_len]; exact hi)
    have hib := img_bd hr hv hi
    have hgi := hg i (by omega)
    repeat' (first | (refine WO.opE (by intro; simp (disch := omega) only [go_sem, hat, hcut, hix, hia, lk3]; rfl) (by simp only [pt8, pt0, pt1, pt2, pt3, pt4, pt5, pt6, pt7]; rfl) ?_) | (refine WC.seq ?_) | (refine WC.region ?_) | (refine WO.nil ?_) | (simp only [fl1]) | (refine WC.skip ?_) | (refine WC.block ?_) | (refine WC.em2 rfl (fun hp => ?_) (fun hp => ?_) <;> try (exfalso; first | omega | contradiction)))
    refine WC.loopI (fun m2 s => ∃ T w j, s = ⟨T, H ++ [some ⟨0, icells v⟩, some ⟨0, icells zer6⟩, some ⟨0, icells w⟩, some ⟨0, icells (imgF rows v)⟩], L⟩ ∧ T.length = 40 ∧ gt T 1 = gx ∧ gt T 6 = .pref (H.length + 1) 0 0 ∧ gt T 7 = .pref (H.length + 2) 0 0 ∧ gt T 14 = .sref (H.length + 3) 0 0 1 rows.length (some rows.length) ∧ gt T 15 = .int .i64 (rows.length : Nat) ∧ gt T 16 = .int .i64 (i : Nat) ∧ gt T 9 = .int .i64 ((imgF rows v).getD i 0) ∧ gt T 24 = .agg (icells (rw_ gens i)) ∧ gt T 25 = .int .i64 (j : Nat) ∧ m2 + j = 6 ∧ w.length = 6 ∧ (∀ k, k < j → w.getD k 0 = tuneN rows gens v (i + 1) k) ∧ ∀ k, j ≤ k → k < 6 → w.getD k 0 = tuneN rows gens v i k) ?_ 6 _ ⟨_, w, 0, rfl, rfl, rfl, rfl, rfl, rfl, rfl, rfl, rfl, rfl, rfl, by omega, hwl, fun k hk => by omega, fun k _ hk => hw k hk⟩
    clear g1 g6 g7 g14 g15 g16 f hwl hw w
    rintro m2 _ ⟨T, w, j, rfl, hT, g1, g6, g7, g14, g15, g16, g9, g24, g25, hm2, hwl, hw1, hw2⟩
    obtain ⟨f, rfl⟩ := ex40 hT
    clear hT
    replace g1 : f 1 = gx := g1
    replace g6 : f 6 = .pref (H.length + 1) 0 0 := g6
    replace g7 : f 7 = .pref (H.length + 2) 0 0 := g7
    replace g14 : f 14 = .sref (H.length + 3) 0 0 1 rows.length (some rows.length) := g14
    replace g15 : f 15 = .int .i64 (rows.length : Nat) := g15
    replace g16 : f 16 = .int .i64 (i : Nat) := g16
    replace g9 : f 9 = .int .i64 ((imgF rows v).getD i 0) := g9
    replace g24 : f 24 = .agg (icells (rw_ gens i)) := g24
    replace g25 : f 25 = .int .i64 (j : Nat) := g25
    simp only [g1, g6, g7, g14, g15, g16, g9, g24, g25]
    by_cases hj : j < 6
    · have hja := icells_at (r := rw_ gens i) (j := j) (by omega)
      have hwa := icells_at (r := w) (j := j) (by omega)
      rw [hw2 j (Nat.le_refl _) hj] at hwa
      have hd : tuneN rows gens v (i + 1) j = tuneN rows gens v i j + (imgF rows v).getD i 0 * (rw_ gens i).getD j 0 := rfl
      have hov2 := icells_over (r := w) (j := j) (by omega) (tuneN rows gens v (i + 1) j)
      have b1 := tune_bd hr hv hg hgl hj i (by omega)
      have b2 := tune_bd hr hv hg hgl hj (i + 1) (by omega)
      have b3 := mul_bb hib (hgi j hj)
      repeat' (first | (refine WO.opE (by intro; simp (disch := omega) only [go_sem, hja, hwa, ← hd, lk2, Nat.mul_one, Nat.zero_add]; rfl) (by simp only [pt8, pt0, pt1, pt2, pt3, pt4, pt5, pt6, pt7]; rfl) ?_) | (refine WO.opN (by intro; simp (disch := omega) only [go_sem, Option.bind_eq_bind, app_s2, hov2, lk2, setBlk, Nat.zero_add]; rfl) ?_) | (refine WC.seq ?_) | (refine WC.region ?_) | (refine WO.nil ?_) | (simp only [fl10]) | (refine WC.skip ?_) | (refine WC.block ?_) | (refine WC.em2 rfl (fun hp => ?_) (fun hp => ?_) <;> try (exfalso; first | omega | contradiction)))
      exact ⟨m2 - 1, by omega, _, w.set j (tuneN rows gens v (i + 1) j), j + 1, rfl, rfl, rfl, rfl, rfl, rfl, rfl, rfl, rfl, rfl, rfl, by omega, by simpa using hwl, fun k hk => by
        by_cases e : k = j
        · subst e; rw [getD_set_self (by omega)]
        · rw [getD_set_ne (by omega)]; exact hw1 k (by omega), fun k h1 h2 => by rw [getD_set_ne (by omega)]; exact hw2 k (by omega) h2⟩
    · have hje : j = 6 := by omega
      subst hje
      repeat' (first | (refine WO.opE (by intro; simp (disch := omega) only [go_sem]; rfl) (by simp only [pt8, pt0, pt2, pt6]; rfl) ?_) | (refine WC.seq ?_) | (refine WC.region ?_) | (refine WO.nil ?_) | (simp only [fl10]) | (refine WC.no rfl ?_) | (refine WC.exit ?_))
      exact ⟨m - 1, by omega, _, w, i + 1, rfl, rfl, rfl, rfl, rfl, rfl, rfl, rfl, by omega, hwl, fun k hk => hw1 k hk⟩
  · have hie : i = rows.length := by omega
    subst hie
    have hwe : w = tuneF rows gens v := getD_ext (by rw [hwl]; simp [tuneF]) fun k hk => by rw [hw k (by omega), tune_at (by omega)]
    subst hwe
    have hcw := icells_cut hwl
    have hml : (icells (tuneF rows gens v)).length = 6 := by rw [icells_len, hwl]
    have hov := fun x0 x1 x2 x3 x4 x5 => icells_over6 hwl (x0 := x0) (x1 := x1) (x2 := x2) (x3 := x3) (x4 := x4) (x5 := x5)
    have hze : icells zer6 = [.int .i64 0, .int .i64 0, .int .i64 0, .int .i64 0, .int .i64 0, .int .i64 0] := rfl
    rw [hze]
    repeat' (first | (refine WO.opE (by intro; simp (disch := omega) only [go_sem, hcw, lk2]; rfl) (by simp only [pt8, pt1, pt7]; rfl) ?_) | (refine WO.opN (by intro; simp (disch := omega) only [go_sem, Option.bind_eq_bind, app_s1, hml, hov, lk1, setBlk]; rfl) ?_) | (refine WC.seq ?_) | (refine WC.region ?_) | (refine WO.nil ?_) | (simp only [fl1]) | (refine WC.exit ?_) | (refine WC.ret ?_) | (refine WC.em2 rfl (fun hp => ?_) (fun hp => ?_) <;> try (exfalso; first | omega | contradiction)))
    exact ⟨_, by simp only [evRes, gt6, lk1 rfl, loadCs, hcw, if_true, Option.bind_some, Option.map_some]; rfl, rfl, _, rfl⟩
end Go.Proofs.Ytnilimjkibimcaa

