import Derived.Test.YtnilimjkibimcaaTl

set_option linter.unusedSimpArgs false
set_option linter.unusedVariables false

namespace Go.Proofs.Ytnilimjkibimcaa
open Go.Zz
set_option maxRecDepth 100000
set_option maxHeartbeats 8000000
theorem x48 {l : AV} {rows : List (List Int)} {v : List Int} (hl : RwL l rows) (hmax : rows.length < 9223372036854775807) (hv6 : v.length = 6) : ∃ x, IntS x (imgR rows v) ∧ ∀ m l', Zz.byC m.heap l' = some l → borrowX U7 48 [.agg [l'], .agg (icells v)] m = some (.tuple [x, .int .i64 (errI rows v)], m) := by
 have hll := hl.len
 have hlc := hl.cells
 unfold AV.cells at hlc
 have hmv : (icells v).length = 6 := by rw [icells_len, hv6]
 have hcv := icells_cut hv6
 have c46 := fun m => x46 (m := m) hl hmax (hl.byC _)
 have c111 := fun m => s111 (m := m) hv6
 suffices h : ∃ x, IntS x (imgR rows v) ∧ WF U7 (.func 48 [] []) [.agg [l], .agg (icells v)] ⟨[], []⟩ fun y m' => newV m'.heap y = some (.tuple [x, .int .i64 (errI rows v)]) by
  obtain ⟨x, hx, hw⟩ := h
  exact ⟨x, hx, fun m l' h0 => borrowX_of (byVals_cons (byMap h0) (byVals_cons (byI _ _) rfl)) hw⟩
 unfold imgR errI
 by_cases ht : VT rows
 ·rw [decide_eq_true ht] at c46
  by_cases hv : okB 48 v
  ·rw [decide_eq_true hv] at c111
   rw [if_pos ⟨ht, hv⟩, if_pos ⟨ht, hv⟩]
   have h3 := ht.1.2
   have hW : WF U7 (.func 48 [] []) [.agg [l], .agg (icells v)] ⟨[], []⟩ fun y m' => ∃ u q, y = .tuple [u, .int .i64 0] ∧ GS 1 m'.heap u q (icells (imgF rows v)) := by
    refine WF.fnE rfl (fn_of Try.func48 cir48) (by show 2 ≤ 34; decide) ?_
    unfold ir48; dsimp only [k0, kI, mV, oO, oG]
    simp only [padTo, List.replicate, List.nil_append, List.append_nil]
    repeat' (first | (refine WO.yes rfl ?_) | (refine WO.opE (by intro; simp (disch := omega) only [go_sem, Zz.look, hcv]; rfl) (by simp only [pt8, pt0, pt2, pt3, pt4, pt5, pt6, pt7]; rfl) ?_) | (refine WO.specE rfl rfl (c46 _) (by simp only [pt8, pt1]; rfl) ?_) | (refine WO.specE rfl rfl (c111 _) (by simp only [pt8, pt5]; rfl) ?_) | (refine WC.seq ?_) | (refine WC.region ?_) | (refine WO.nil ?_) | (simp only [fl1]) | (refine WC.no rfl ?_) | (refine WC.skip ?_) | (refine WC.block ?_))
    refine WC.loopI (fun m s => ∃ T G v0 q i, s = ⟨T, G, []⟩ ∧ T.length = 34 ∧ gt T 2 = .pref 0 0 0 ∧ gt T 3 = .pref 1 0 0 ∧ gt T 6 = v0 ∧ gt T 7 = .int .i64 (i : Nat) ∧ m + i = rows.length ∧ Zz.look G 0 0 = some [l] ∧ Zz.look G 1 0 = some (icells v) ∧ 1 < q ∧ GS 1 G v0 q (icells ((imgF rows v).take i))) ?_ rows.length _ ⟨_, _, .snil, 2, 0, rfl, rfl, rfl, rfl, rfl, rfl, by omega, rfl, rfl, by decide, .inl ⟨rfl, rfl⟩⟩
    rintro m _ ⟨T, G, v0, q, i, rfl, hT, g2, g3, g6, g7, hm, k0, k1, hq, hgs⟩
    obtain ⟨f, rfl⟩ := ex34 hT
    clear hT
    replace g2 : f 2 = .pref 0 0 0 := g2
    replace g3 : f 3 = .pref 1 0 0 := g3
    replace g6 : f 6 = v0 := g6
    replace g7 : f 7 = .int .i64 (i : Nat) := g7
    simp only [g2, g3, g6, g7]
    by_cases hi : i < rows.length
    ·have h6 := hl.six hi
     have hat := hl.at hi
     have hcut := cut_row (t := tailr rows i) h6
     have hcr : (rw_ rows i).map (AV.int .i64) = icells (rw_ rows i) := rfl
     rw [hcr] at hat hcut
     have c112 := fun m => s112 (m := m) h6 hv6 (ht.2.1 i hi) hv (by decide)
     have hln : (icells ((imgF rows v).take i)).length = i := by rw [icells_len, List.length_take, img_len]; omega
     have hl1 := look_lt k1
     obtain ⟨v2, q2, G2, b1, g2, b2, b3, b4⟩ := (hgs.more [some ⟨0, [.int .i64 (dotF (rw_ rows i) v)]⟩]).append (L := []) (bytes := 8) (n := 1) (cap := some 1) (id := G.length) (lk0 rfl) rfl Nat.one_pos (by decide) ⟨by rw [Nat.div_one, hln]; omega, by rw [Nat.div_one, hln]; omega⟩
     have e1 : icells ((imgF rows v).take i) ++ [.int .i64 (dotF (rw_ rows i) v)] = icells ((imgF rows v).take (i + 1)) := by
      have hi2 : i < (imgF rows v).length := by rw [img_len]; exact hi
      have h7 := img_at (v := v) hi
      rw [List.getD_eq_getElem?_getD, List.getElem?_eq_getElem hi2] at h7
      rw [List.take_add_one, List.getElem?_eq_getElem hi2, ← h7]
      show (List.take i (imgF rows v)).map (AV.int .i64) ++ [AV.int .i64 (imgF rows v)[i]] = (List.take i (imgF rows v) ++ [(imgF rows v)[i]]).map (AV.int .i64)
      rw [List.map_append]
      rfl
     rw [e1] at g2
     have kk : ∀ p, p < 2 → ∀ c, Zz.look G p 0 = some c → Zz.look G2 p 0 = some c := fun p hp c hc => by
      have hg := b4 p (by simp; omega) (by omega)
      rw [look_of_get hg]
      exact (look_left (by omega)).trans hc
     repeat' (first | (refine WO.opE (by intro; simp (disch := omega) only [go_sem, k0]; rfl) (by simp only [pt8, pt0, pt1, pt2, pt4, pt5, pt6, pt7]; rfl) ?_) | (refine WO.opE (by intro; exact ev_lenS (by simp only [go_sem]; first | rfl | assumption)) (by simp only [pt8, pt3]; rfl) ?_) | (refine WT.spec rfl rfl (fun V => c112 ⟨V, []⟩) (by simp only [pt8, pt6]; rfl) ?_) | (refine WT.append (sv := v0) (xv := .sref G.length 0 0 1 1 (some 1)) rfl rfl b1 (apart_nil _) (apart_nil _) (by simp only [pt8, pt0]; rfl) ?_) | (refine WC.seq ?_) | (refine WC.region ?_) | (refine WO.nil ?_) | (simp only [fl1, fl4, fl10]) | (refine WC.drawT ?_) | (refine WT.nil ?_) | (refine WT.free rfl (by intro; simp (disch := omega) only [go_sem, fillP, Option.bind_eq_bind, zeros, ov_one0, hat, hcut, k0, k1, hcv]; rfl) rfl (by simp only [pt8, pt0, pt1, pt2, pt3, pt4, pt5, pt6, pt7]; rfl) ?_) | (refine WT.big rfl rfl (by intro; simp (disch := omega) only [go_sem, fillP, Option.bind_eq_bind, zeros, ov_one0, hcut, k0, k1, hcv]; rfl) (by simp (disch := omega) only [go_sem, touch]; rfl) (by first | exact .inl rfl | exact .inr (apart_nil _) | exact .inr trivial | (right; apply apart_mk; simp only [apartL, List.nil_append, List.cons_append, List.getElem?_cons_succ, List.getElem?_cons_zero, Tch.free, and_true, true_and]; first | done | omega)) (by simp only [pt8, pt1, pt4, pt5, pt7]; rfl) ?_) | (refine WC.skip ?_) | (refine WC.block ?_) | (refine WC.em2 rfl (fun hp => ?_) (fun hp => ?_) <;> try (exfalso; first | omega | contradiction)))
     exact ⟨m - 1, by omega, _, G2, v2, q2, i + 1, rfl, rfl, rfl, rfl, rfl, rfl, by omega, kk 0 (by decide) _ k0, kk 1 (by decide) _ k1, by rcases b2 with rfl | rfl; exact hq; (simp; omega), g2⟩
    ·have hie : i = rows.length := by omega
     subst hie
     rw [List.take_of_length_le (by rw [img_len]; omega)] at hgs
     repeat' (first | (refine WO.opE (by intro; simp (disch := omega) only [go_sem, k0]; rfl) (by simp only [pt8, pt0, pt1, pt2, pt4, pt5]; rfl) ?_) | (refine WO.opE (by intro; exact ev_lenS (by simp only [go_sem]; first | rfl | assumption)) (by simp only [pt8, pt3]; rfl) ?_) | (refine WC.seq ?_) | (refine WC.region ?_) | (refine WO.nil ?_) | (simp only [fl1]) | (refine WC.exit ?_) | (refine WC.ret ?_) | (refine WC.em2 rfl (fun hp => ?_) (fun hp => ?_) <;> try (exfalso; first | omega | contradiction)))
     exact ⟨_, rfl, v0, q, rfl, hgs⟩
   obtain ⟨n, y, m', h1, u, q, rfl, h2⟩ := hW.ex
   obtain ⟨x, e1, e2⟩ := gs_newI h2
   exact ⟨x, e1, ⟨⟨n, _, m', h1, newV_two e2⟩⟩⟩
  ·rw [decide_eq_false hv] at c111
   rw [if_neg (fun h => hv h.2), if_neg (fun h => hv h.2)]
   refine ⟨.snil, IntS.nil, ?_⟩
   refine WF.fnE rfl (fn_of Try.func48 cir48) (by show 2 ≤ 34; decide) ?_
   unfold ir48; dsimp only [k0, kI, mV, oO, oG]
   simp only [padTo, List.replicate, List.nil_append, List.append_nil]
   repeat' (first | (refine WO.yes rfl ?_) | (refine WO.opE (by intro; simp (disch := omega) only [go_sem, Zz.look, hcv]; rfl) (by simp only [pt8, pt0, pt2, pt3, pt4, pt5, pt6, pt7]; rfl) ?_) | (refine WO.specE rfl rfl (c46 _) (by simp only [pt8, pt1]; rfl) ?_) | (refine WO.specE rfl rfl (c111 _) (by simp only [pt8, pt5]; rfl) ?_) | (refine WC.seq ?_) | (refine WC.region ?_) | (refine WO.nil ?_) | (simp only [fl1, fl2]) | (refine WC.yes rfl ?_) | (refine WC.ret ?_))
   exact ⟨_, rfl, rfl⟩
 ·rw [decide_eq_false ht] at c46
  rw [if_neg (fun h => ht h.1), if_neg (fun h => ht h.1)]
  refine ⟨.snil, IntS.nil, ?_⟩
  refine WF.fnE rfl (fn_of Try.func48 cir48) (by show 2 ≤ 34; decide) ?_
  unfold ir48; dsimp only [k0, kI, mV, oO, oG]
  simp only [padTo, List.replicate, List.nil_append, List.append_nil]
  repeat' (first | (refine WO.noE rfl (by simp only [pt8, pt4, pt5, pt6]; rfl) ?_) | (refine WO.opE (by intro; simp (disch := omega) only [go_sem, Zz.look]; rfl) (by simp only [pt8, pt0, pt2, pt3, pt4, pt5, pt7]; rfl) ?_) | (refine WO.specE rfl rfl (c46 _) (by simp only [pt8, pt1]; rfl) ?_) | (refine WC.seq ?_) | (refine WC.region ?_) | (refine WO.nil ?_) | (simp only [fl1, fl2]) | (refine WC.yes rfl ?_) | (refine WC.ret ?_))
  exact ⟨_, rfl, rfl⟩
noncomputable def U8 : Env := U7.put 48 (borrowX U7 48)
theorem U8_ok : EnvOk Try.prog U8 := Env.put_ok U7_ok (borrowX_ok U7_ok (callable Try.func48 (by kernel_rfl)))
theorem f51 {l : AV} {rows : List (List Int)} {v : List Int} (hl : RwL l rows) (hmax : rows.length < 9223372036854775807) (hv6 : v.length = 6) : WF U8 (.func 51 [] []) [.agg [l], .agg (icells v)] ⟨[], []⟩ fun y m' => y = .tuple [.bool (tempR rows v), .int .i64 (errI rows v)] := by
 have hlc := hl.cells
 unfold AV.cells at hlc
 have hmv : (icells v).length = 6 := by rw [icells_len, hv6]
 have hcv := icells_cut hv6
 obtain ⟨x, hx, c48⟩ := x48 hl hmax hv6
 have c48 := fun m => c48 m l (hl.byC _)
 by_cases ht : VT rows ∧ okB 48 v
 ·have e1 : imgR rows v = imgF rows v := if_pos ht
  have e2 : errI rows v = 0 := if_pos ht
  rw [e1] at hx
  rw [e2] at c48 ⊢
  have hxl := IntS.len hx
  rw [img_len] at hxl
  refine WF.fnE rfl (fn_of Try.func51 cir51) (by show 2 ≤ 29; decide) ?_
  unfold ir51; dsimp only [k0, kI, mV, oO, oG]
  simp only [padTo, List.replicate, List.nil_append, List.append_nil]
  repeat' (first | (refine WO.opE (by intro; simp (disch := omega) only [go_sem, Zz.look, hcv]; rfl) (by simp only [pt8, pt0, pt1, pt2, pt3, pt4, pt5, pt6, pt7]; rfl) ?_) | (refine WO.specE rfl rfl (c48 _) (by simp only [pt8, pt4]; rfl) ?_) | (refine WC.seq ?_) | (refine WC.region ?_) | (refine WO.nil ?_) | (simp only [fl1]) | (refine WC.no rfl ?_) | (refine WC.skip ?_) | (refine WC.block ?_))
  refine WC.loopI (fun m s => ∃ T i, s = ⟨T, [some ⟨0, [l]⟩, some ⟨0, icells v⟩], []⟩ ∧ T.length = 29 ∧ gt T 6 = x ∧ gt T 8 = .int .i64 (i : Nat) ∧ m + i = rows.length ∧ ∀ t, t < i → (imgF rows v).getD t 0 = 0) ?_ rows.length _ ⟨_, 0, rfl, rfl, rfl, rfl, by omega, fun t ht => by omega⟩
  rintro m _ ⟨T, i, rfl, hT, g6, g8, hm, hz⟩
  obtain ⟨f, rfl⟩ := ex29 hT
  clear hT
  replace g6 : f 6 = x := g6
  replace g8 : f 8 = .int .i64 (i : Nat) := g8
  simp only [g6, g8]
  by_cases hi : i < rows.length
  ·have hat := hx.atI (i := (i : Int)) (by omega) (by rw [img_len]; omega)
   rw [toNat_cast] at hat
   by_cases h0 : (imgF rows v).getD i 0 = 0
   ·rw [h0] at hat
    repeat' (first | (refine WO.opE (by intro; simp (disch := omega) only [go_sem, hat]; rfl) (by simp only [pt8, pt0, pt1, pt2, pt3, pt4, pt5, pt6, pt7]; rfl) ?_) | (refine WO.opE (by intro; exact ev_lenS (by simp only [go_sem]; first | rfl | assumption)) (by simp only [pt8, pt4]; rfl) ?_) | (refine WC.seq ?_) | (refine WC.region ?_) | (refine WO.nil ?_) | (simp only [fl1, fl10]) | (refine WC.no rfl ?_) | (refine WC.skip ?_) | (refine WC.block ?_) | (refine WC.em2 rfl (fun hp => ?_) (fun hp => ?_) <;> try (exfalso; first | omega | contradiction)))
    exact ⟨m - 1, by omega, _, i + 1, rfl, rfl, rfl, rfl, by omega, fun t ht => by
     by_cases e : t = i
     ·subst e; exact h0
     ·exact hz t (by omega)⟩
   ·have hd : tempR rows v = false := decide_eq_false fun h => h0 (h.2 i hi)
    generalize (imgF rows v).getD i 0 = y at *
    repeat' (first | (refine WO.opE (by intro; simp (disch := omega) only [go_sem, hat]; rfl) (by simp only [pt8, pt0, pt1, pt2, pt3, pt4, pt5]; rfl) ?_) | (refine WO.opE (by intro; exact ev_lenS (by simp only [go_sem]; first | rfl | assumption)) (by simp only [pt8, pt4]; rfl) ?_) | (refine WC.seq ?_) | (refine WC.region ?_) | (refine WO.nil ?_) | (simp only [fl1, fl2, fl5, fl8]) | (refine WC.skip ?_) | (refine WC.ret ?_) | (refine WC.block ?_) | (refine WC.em2 rfl (fun hp => ?_) (fun hp => ?_) <;> try (exfalso; first | omega | contradiction)))
    exact ⟨_, rfl, by rw [hd]; rfl⟩
  ·have hie : i = rows.length := by omega
   subst hie
   have hd : tempR rows v = true := decide_eq_true ⟨ht, hz⟩
   repeat' (first | (refine WO.opE (by intro; simp (disch := omega) only [go_sem]; rfl) (by simp only [pt8, pt2, pt3, pt4, pt5]; rfl) ?_) | (refine WO.opE (by intro; exact ev_lenS (by simp only [go_sem]; first | rfl | assumption)) (by simp only [pt8, pt4]; rfl) ?_) | (refine WC.seq ?_) | (refine WC.region ?_) | (refine WO.nil ?_) | (simp only [fl1]) | (refine WC.exit ?_) | (refine WC.ret ?_) | (refine WC.em2 rfl (fun hp => ?_) (fun hp => ?_) <;> try (exfalso; first | omega | contradiction)))
   exact ⟨_, rfl, by rw [hd]; rfl⟩
 ·have e2 : errI rows v = 1 := if_neg ht
  rw [e2] at c48 ⊢
  have hd : tempR rows v = false := decide_eq_false fun h => ht h.1
  refine WF.fnE rfl (fn_of Try.func51 cir51) (by show 2 ≤ 29; decide) ?_
  unfold ir51; dsimp only [k0, kI, mV, oO, oG]
  simp only [padTo, List.replicate, List.nil_append, List.append_nil]
  repeat' (first | (refine WO.opE (by intro; simp (disch := omega) only [go_sem, Zz.look, hcv]; rfl) (by simp only [pt8, pt0, pt1, pt2, pt3, pt4, pt5, pt6, pt7]; rfl) ?_) | (refine WO.specE rfl rfl (c48 _) (by simp only [pt8, pt4]; rfl) ?_) | (refine WC.seq ?_) | (refine WC.region ?_) | (refine WO.nil ?_) | (simp only [fl1, fl2]) | (refine WC.yes rfl ?_) | (refine WC.ret ?_))
  exact ⟨_, rfl, by rw [hd]; rfl⟩
theorem x51 {l l' : AV} {rows : List (List Int)} {v : List Int} (hl : RwL l rows) (hmax : rows.length < 9223372036854775807) (hv6 : v.length = 6) {m : Mem} (h0 : Zz.byC m.heap l' = some l) : borrowX U8 51 [.agg [l'], .agg (icells v)] m = some (.tuple [.bool (tempR rows v), .int .i64 (errI rows v)], m) :=
 borrowX_of (byVals_cons (byMap h0) (byVals_cons (byI _ _) rfl)) ((f51 hl hmax hv6).mono fun y m' h => by rw [h]; rfl)
theorem x53 {l : AV} {rows : List (List Int)} (hl : RwL l rows) (hmax : rows.length < 9223372036854775807) : ∃ x, RwL x (kerT rows) ∧ ∀ m l', Zz.byC m.heap l' = some l → borrowX U8 53 [.agg [l']] m = some (.tuple [x, .int .i64 (errT rows)], m) := by
 have hlc := hl.cells
 unfold AV.cells at hlc
 have h6 : Six rows := fun i hi => hl.six hi
 have c46 := fun m => x46 (m := m) hl hmax (hl.byC _)
 by_cases ht : VT rows
 ·rw [decide_eq_true ht] at c46
  have e1 : kerT rows = kerF rows := if_pos ht
  have e2 : errT rows = 0 := if_pos ht
  have e3 : kernR rows = kerF rows := if_pos ht.2.2.1
  have e4 : errC rows = 0 := if_pos ht.2.2.1
  rw [e1, e2]
  obtain ⟨x, hx, hB⟩ := r31 hl hmax
  obtain ⟨new, v', c31, g31, hrx⟩ := hB [some ⟨0, [l]⟩] []
  have c31 := c31 l (hl.byVal _)
  rw [e3] at hx
  rw [e4] at c31
  have hn : Zz.newA ([some ⟨0, [l]⟩] ++ new) v' = some x := (GS.newA g31).trans hrx
  refine ⟨x, hx, fun m l' h0 => borrowX_of (byVals_cons (byMap h0) rfl) ?_⟩
  refine WF.fnE rfl (fn_of Try.func53 cir53) (by show 1 ≤ 17; decide) ?_
  unfold ir53; dsimp only [k0, kI, mV, oO, oG]
  simp only [padTo, List.replicate, List.nil_append, List.append_nil]
  repeat' (first | (refine WO.opE (by intro; simp (disch := omega) only [go_sem, Zz.look]; rfl) (by simp only [pt8, pt0, pt1, pt2, pt3, pt4, pt5, pt6, pt7]; rfl) ?_) | (refine WO.specE rfl rfl (c46 _) (by simp only [pt7]; rfl) ?_) | (refine WO.specE rfl rfl (c31) (by simp only [pt8, pt4]; rfl) ?_) | (refine WC.seq ?_) | (refine WC.region ?_) | (refine WO.nil ?_) | (simp only [fl1]) | (refine WC.no rfl ?_) | (refine WC.skip ?_) | (refine WC.ret ?_))
  exact ⟨_, rfl, newV_two hn⟩
 ·rw [decide_eq_false ht] at c46
  have e1 : kerT rows = [] := if_neg ht
  have e2 : errT rows = 1 := if_neg ht
  rw [e1, e2]
  refine ⟨.snil, rwl_nil, fun m l' h0 => borrowX_of (byVals_cons (byMap h0) rfl) ?_⟩
  refine WF.fnE rfl (fn_of Try.func53 cir53) (by show 1 ≤ 17; decide) ?_
  unfold ir53; dsimp only [k0, kI, mV, oO, oG]
  simp only [padTo, List.replicate, List.nil_append, List.append_nil]
  repeat' (first | (refine WO.opE (by intro; simp (disch := omega) only [go_sem, Zz.look]; rfl) (by simp only [pt8, pt0, pt1, pt2, pt3, pt6]; rfl) ?_) | (refine WO.specE rfl rfl (c46 _) (by simp only [pt7]; rfl) ?_) | (refine WC.seq ?_) | (refine WC.region ?_) | (refine WO.nil ?_) | (simp only [fl1, fl2]) | (refine WC.yes rfl ?_) | (refine WC.ret ?_))
  exact ⟨_, rfl, rfl⟩
noncomputable def U9 : Env := U8.put 51 (borrowX U8 51)
theorem U9_ok : EnvOk Try.prog U9 := Env.put_ok U8_ok (borrowX_ok U8_ok (callable Try.func51 (by kernel_rfl)))
theorem x56 {l : AV} {rows : List (List Int)} (hl : RwL l rows) (hmax : rows.length < 9223372036854775807) : ∃ x, RwL x (fromR rows) ∧ ∀ m l', Zz.byVal m.heap l' = some l → borrowX U9 56 [l'] m = some (.tuple [.agg [x], .int .i64 (errF rows)], m) := by
 have hll := hl.len
 have hlc := hl.cells
 unfold AV.cells at hlc
 have h6r : Six rows := fun i hi => hl.six hi
 have c25 := fun m => x26 (m := m) (l' := l) hl hmax (hl.byVal _)
 suffices h : ∃ x, RwL x (fromR rows) ∧ WF U9 (.func 56 [] []) [l] ⟨[], []⟩ fun y m' => newV m'.heap y = some (.tuple [.agg [x], .int .i64 (errF rows)]) by
  obtain ⟨x, hx, hw⟩ := h
  exact ⟨x, hx, fun m l' h0 => borrowX_of (byVals_cons h0 rfl) hw⟩
 by_cases hv : VM rows
 ·rw [decide_eq_true hv] at c25
  have hk0 : Zz.look ([some ⟨0, [.snil]⟩] : Hp) 0 0 = some [.snil] := rfl
  have e3 : kernR rows = kerF rows := if_pos hv
  have e4 : errC rows = 0 := if_pos hv
  have hK6 : ∀ r ∈ kerF rows, r.length = 6 := (ker_lat hv h6r).six
  obtain ⟨x, hx, hB⟩ := r31 hl hmax
  rw [e3] at hx
  have hkl : (kerF rows).length < 1000000 := by have h1 := (ker_lat hv h6r).len; have h2 := free_all (bwd_B hv h6r).j; omega
  have c45 := fun (m : Mem) (v' : AV) (h : Zz.byC m.heap v' = some x) => x46 (m := m) hx (by omega) h
  refine ⟨if fromC rows ∧ VT (kerF rows) then x else .snil, by unfold fromR; split; exact hx; exact rwl_nil, ?_⟩
  refine WF.fnE rfl (fn_of Try.func56 cir56) (by show 1 ≤ 50; decide) ?_
  unfold ir56; dsimp only [k0, kI, mV, oO, oG]
  simp only [padTo, List.replicate, List.nil_append, List.append_nil]
  repeat' (first | (refine WO.opE (by intro; simp (disch := omega) only [go_sem]; rfl) (by simp only [pt8, pt0, pt2, pt3, pt4]; rfl) ?_) | (refine WO.specE rfl rfl (c25 _) (by simp only [pt8, pt1]; rfl) ?_) | (refine WC.seq ?_) | (refine WC.region ?_) | (refine WO.nil ?_) | (simp only [fl1]) | (refine WC.no rfl ?_) | (refine WC.skip ?_) | (refine WC.block ?_))
  refine WC.loopI (fun m s => ∃ T G i, s = ⟨T, G, []⟩ ∧ T.length = 50 ∧ gt T 0 = l ∧ gt T 2 = .pref 0 0 0 ∧ gt T 4 = .int .i64 (i : Nat) ∧ m + i = rows.length ∧ Zz.look G 0 0 = some [.snil] ∧ ∀ t, t < i → okB 48 (rw_ rows t)) ?_ rows.length _ ⟨_, _, 0, rfl, rfl, rfl, rfl, rfl, by omega, hk0, fun t ht => by omega⟩
  rintro m _ ⟨T, G, i, rfl, hT, g0, g2, g4, hm, k0, hz⟩
  obtain ⟨f, rfl⟩ := ex50 hT
  clear hT
  replace g0 : f 0 = l := g0
  replace g2 : f 2 = .pref 0 0 0 := g2
  replace g4 : f 4 = .int .i64 (i : Nat) := g4
  simp only [g0, g2, g4]
  have l0 := look_lt k0
  by_cases hi : i < rows.length
  ·have h6 := hl.six hi
   have hat := hl.at hi
   have hcut := cut_row (t := tailr rows i) h6
   have hcr : (rw_ rows i).map (AV.int .i64) = icells (rw_ rows i) := rfl
   rw [hcr] at hat hcut
   have c61 := fun m => s111 (m := m) h6
   by_cases hg : okB 48 (rw_ rows i)
   ·rw [decide_eq_true hg] at c61
    repeat' (first | (refine WO.opE (by intro; simp (disch := omega) only [go_sem, hat, hcut]; rfl) (by simp only [pt8, pt0, pt1, pt2, pt3, pt4, pt5, pt7]; rfl) ?_) | (refine WO.opE (by intro; exact ev_lenS (by simp only [go_sem]; first | rfl | assumption)) (by simp only [pt8, pt6]; rfl) ?_) | (refine WO.specE rfl rfl (c61 _) (by simp only [pt8, pt6]; rfl) ?_) | (refine WC.seq ?_) | (refine WC.region ?_) | (refine WO.nil ?_) | (simp only [fl1, fl10]) | (refine WC.no rfl ?_) | (refine WC.skip ?_) | (refine WC.block ?_) | (refine WC.em2 rfl (fun hp => ?_) (fun hp => ?_) <;> try (exfalso; first | omega | contradiction)))
    exact ⟨m - 1, by omega, _, _, i + 1, rfl, rfl, rfl, rfl, rfl, by omega, k0, fun t ht => by
     by_cases e : t = i
     ·rw [e]; exact hg
     ·exact hz t (by omega)⟩
   ·rw [decide_eq_false hg] at c61
    have hno : ¬ fromC rows := fun h => hg (h.2 i hi)
    rw [if_neg fun h => hno h.1, show errF rows = 1 from if_neg hno]
    have hres : Zz.look ((G : Hp).set 0 (some ⟨0, [.snil]⟩)) 0 0 = some [.snil] := look_set l0
    repeat' (first | (refine WO.opE (by intro; simp (disch := omega) only [go_sem, fillP, hat, hcut]; rfl) (by simp only [pt8, pt0, pt2, pt3, pt4, pt5, pt7]; rfl) ?_) | (refine WO.opN (by intro; simp (disch := omega) only [go_sem, Option.bind_eq_bind, ov_one0, k0, setBlk]; rfl) ?_) | (refine WO.opE (by intro; exact ev_lenS (by simp only [go_sem]; first | rfl | assumption)) (by simp only [pt8, pt6]; rfl) ?_) | (refine WO.specE rfl rfl (c61 _) (by simp only [pt8, pt6]; rfl) ?_) | (refine WC.seq ?_) | (refine WC.region ?_) | (refine WO.nil ?_) | (simp only [fl1, fl2, fl5, fl8]) | (refine WC.yes rfl ?_) | (refine WC.skip ?_) | (refine WC.ret ?_) | (refine WC.block ?_) | (refine WC.em2 rfl (fun hp => ?_) (fun hp => ?_) <;> try (exfalso; first | omega | contradiction)))
    exact ⟨_, by simp only [evRes, gt2, gt3, loadCs, hres, cut1, if_true, Option.bind_some, Option.map_some]; rfl, rfl⟩
  ·have hie : i = rows.length := by omega
   subst hie
   have hc : fromC rows := ⟨hv, hz⟩
   obtain ⟨new, v', c30, g30, hrx⟩ := hB G []
   have c30 := c30 l (hl.byVal _)
   rw [e3] at g30
   rw [e4] at c30
   repeat' (first | (refine WO.opE (by intro; simp (disch := omega) only [go_sem]; rfl) (by simp only [pt8, pt2, pt4, pt5, pt7]; rfl) ?_) | (refine WO.opE (by intro; exact ev_lenS (by simp only [go_sem]; first | rfl | assumption)) (by simp only [pt8, pt6]; rfl) ?_) | (refine WC.seq ?_) | (refine WC.region ?_) | (refine WO.nil ?_) | (simp only [fl1]) | (refine WC.exit ?_) | (refine WC.em2 rfl (fun hp => ?_) (fun hp => ?_) <;> try (exfalso; first | omega | contradiction)))
   refine WO.specE rfl rfl c30 (by simp only [pt8, pt3]; rfl) ?_
   have k0' : Zz.look (G ++ new) 0 0 = some [.snil] := (look_left l0).trans k0
   have hG0 : 0 < G.length := l0
   generalize hqe : G.length = q0 at *
   generalize (G ++ new : Hp) = G2 at *
   have l02 := look_lt k0'
   have hvc := gs_cells g30
   unfold AV.cells at hvc
   have hgl : slen v' = some (kerF rows).length := by
    rw [GS.len g30 (by decide), flatR_len hK6, Nat.mul_div_cancel _ (by decide)]
   have hlk : Zz.look (G2 ++ [some ⟨0, [v']⟩]) 0 0 = some [.snil] := (look_left l02).trans k0'
   have hby : Zz.byC (G2 ++ [some ⟨0, [v']⟩]) v' = some x := (gs_byC (g30.more _)).trans ((gs_res (g30.more _) g30).trans hrx)
   have hres : ∀ y, Zz.look ((G2 ++ [some ⟨0, [v']⟩] : Hp).set 0 (some ⟨0, [y]⟩)) 0 0 = some [y] := fun y => look_set (by simp)
   have hres2 : ∀ y, Zz.look ((G2 : Hp).set 0 (some ⟨0, [y]⟩)) 0 0 = some [y] := fun y => look_set l02
   by_cases hok : VT (kerF rows)
   ·have h13 := hok.1
    have e2 : errF rows = 0 := by unfold errF; rw [if_pos hc, if_neg (by omega), if_pos hok]
    rw [decide_eq_true hok] at c45
    rw [if_pos ⟨hc, hok⟩, e2]
    repeat' (first | (refine WO.yes rfl ?_) | (refine WO.opE (by intro; simp (disch := omega) only [go_sem, fillP, Option.bind_eq_bind, ov_one0, hvc, lk0, cut1]; rfl) (by simp only [pt8, pt0, pt1, pt2, pt3, pt4, pt5, pt6, pt7]; rfl) ?_) | (refine WO.opN (by intro; simp (disch := omega) only [go_sem, Option.bind_eq_bind, app_s0, ov_one0, hlk, lk0, setBlk]; rfl) ?_) | (refine WO.opE (by intro; exact ev_lenS (by simp only [go_sem]; first | rfl | assumption)) (by simp only [pt8, pt3, pt7]; rfl) ?_) | (refine WO.specE rfl rfl (c45 _ _ hby) (by simp only [pt8, pt6]; rfl) ?_) | (refine WC.seq ?_) | (refine WC.region ?_) | (refine WO.nil ?_) | (simp only [fl1]) | (refine WC.no rfl ?_) | (refine WC.skip ?_) | (refine WC.ret ?_) | (refine WO.em2 rfl (by intro hp; simp only [hp, decide_true]; rfl) (by intro hp; simp only [hp, decide_false]; rfl) (fun hp => ?_) (fun hp => ?_) <;> try (exfalso; first | omega | contradiction)) | (refine WC.em2 rfl (fun hp => ?_) (fun hp => ?_) <;> try (exfalso; first | omega | contradiction)))
    have hgs := gs_set (b := 0) (x := some ⟨0, [v']⟩) (g30.more [some ⟨0, [v']⟩]) (show 0 ≠ q0 by omega)
    have hfin := newM (c := 0) (gs_newC hgs hK6 ((gs_res hgs g30).trans hrx))
    refine ⟨_, by simp only [evRes, gt2, gt3, loadCs, hres, cut1, if_true, Option.bind_some, Option.map_some]; rfl, ?_⟩
    exact hfin
   ·rw [decide_eq_false hok] at c45
    rw [if_neg fun h => hok h.2]
    by_cases h13 : (kerF rows).length = 0 ∨ (kerF rows).length > 3
    ·rw [show errF rows = 4 by unfold errF; rw [if_pos hc, if_pos h13]]
     repeat' (first | (refine WO.yes rfl ?_) | (refine WO.noE rfl (by simp only [pt8, pt0, pt6, pt7]; rfl) ?_) | (refine WO.opE (by intro; simp (disch := omega) only [go_sem, fillP]; rfl) (by simp only [pt8, pt0, pt1, pt2, pt3, pt4, pt5, pt6, pt7]; rfl) ?_) | (refine WO.opN (by intro; simp (disch := omega) only [go_sem, Option.bind_eq_bind, ov_one0, k0', setBlk]; rfl) ?_) | (refine WO.opE (by intro; exact ev_lenS (by simp only [go_sem]; first | rfl | assumption)) (by simp only [pt8, pt3, pt7]; rfl) ?_) | (refine WC.seq ?_) | (refine WC.region ?_) | (refine WO.nil ?_) | (simp only [fl1, fl2]) | (refine WC.yes rfl ?_) | (refine WC.no rfl ?_) | (refine WC.skip ?_) | (refine WC.ret ?_) | (refine WO.em2 rfl (by intro hp; simp only [hp, decide_true]; rfl) (by intro hp; simp only [hp, decide_false]; rfl) (fun hp => ?_) (fun hp => ?_) <;> try (exfalso; first | omega | contradiction)) | (refine WC.em2 rfl (fun hp => ?_) (fun hp => ?_) <;> try (exfalso; first | omega | contradiction)))
     all_goals exact ⟨_, by simp only [evRes, gt2, gt3, loadCs, hres2, cut1, if_true, Option.bind_some, Option.map_some]; rfl, rfl⟩
    ·rw [show errF rows = 3 by unfold errF; rw [if_pos hc, if_neg h13, if_neg hok]]
     repeat' (first | (refine WO.yes rfl ?_) | (refine WO.opE (by intro; simp (disch := omega) only [go_sem, fillP, Option.bind_eq_bind, ov_one0, hvc, lk0, cut1]; rfl) (by simp only [pt8, pt0, pt1, pt2, pt3, pt4, pt5, pt6, pt7]; rfl) ?_) | (refine WO.opN (by intro; simp (disch := omega) only [go_sem, Option.bind_eq_bind, app_s0, ov_one0, hlk, lk0, setBlk]; rfl) ?_) | (refine WO.opE (by intro; exact ev_lenS (by simp only [go_sem]; first | rfl | assumption)) (by simp only [pt8, pt3, pt7]; rfl) ?_) | (refine WO.specE rfl rfl (c45 _ _ hby) (by simp only [pt8, pt6]; rfl) ?_) | (refine WC.seq ?_) | (refine WC.region ?_) | (refine WO.nil ?_) | (simp only [fl1, fl2]) | (refine WC.yes rfl ?_) | (refine WC.no rfl ?_) | (refine WC.skip ?_) | (refine WC.ret ?_) | (refine WO.em2 rfl (by intro hp; simp only [hp, decide_true]; rfl) (by intro hp; simp only [hp, decide_false]; rfl) (fun hp => ?_) (fun hp => ?_) <;> try (exfalso; first | omega | contradiction)) | (refine WC.em2 rfl (fun hp => ?_) (fun hp => ?_) <;> try (exfalso; first | omega | contradiction)))
     exact ⟨_, by simp only [evRes, gt2, gt3, loadCs, hres, cut1, if_true, Option.bind_some, Option.map_some]; rfl, rfl⟩
 ·rw [decide_eq_false hv] at c25
  have hno : ¬ fromC rows := fun h => hv h.1
  rw [show fromR rows = [] from if_neg fun h => hno h.1, show errF rows = 1 from if_neg hno]
  refine ⟨.snil, rwl_nil, ?_⟩
  refine WF.fnE rfl (fn_of Try.func56 cir56) (by show 1 ≤ 50; decide) ?_
  unfold ir56; dsimp only [k0, kI, mV, oO, oG]
  simp only [padTo, List.replicate, List.nil_append, List.append_nil]
  repeat' (first | (refine WO.opE (by intro; simp (disch := omega) only [go_sem, fillP]; rfl) (by simp only [pt8, pt0, pt2, pt3]; rfl) ?_) | (refine WO.opN (by intro; simp (disch := omega) only [go_sem, Zz.look, Zz.over, Option.bind_eq_bind, Nat.reduceLeDiff, setBlk, List.set_cons_zero]; rfl) ?_) | (refine WO.specE rfl rfl (c25 _) (by simp only [pt8, pt1]; rfl) ?_) | (refine WC.seq ?_) | (refine WC.region ?_) | (refine WO.nil ?_) | (simp only [fl1, fl2]) | (refine WC.yes rfl ?_) | (refine WC.ret ?_))
  exact ⟨_, rfl, rfl⟩
noncomputable def U10 : Env := U9.put 53 (borrowX U8 53)
theorem U10_ok : EnvOk Try.prog U10 := Env.put_ok U9_ok (borrowX_ok U8_ok (callable Try.func53 (by kernel_rfl)))
noncomputable def U11 : Env := U10.put 56 (borrowX U9 56)
theorem U11_ok : EnvOk Try.prog U11 := Env.put_ok U10_ok (borrowX_ok U9_ok (callable Try.func56 (by kernel_rfl)))
end Go.Proofs.Ytnilimjkibimcaa

