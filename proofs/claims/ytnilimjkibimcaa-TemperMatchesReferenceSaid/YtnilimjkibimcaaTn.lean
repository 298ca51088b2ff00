import Derived.Test.YtnilimjkibimcaaTm

set_option linter.unusedSimpArgs false
set_option linter.unusedVariables false

namespace Go.Proofs.Ytnilimjkibimcaa
open Go.Zz
set_option maxRecDepth 100000
set_option maxHeartbeats 8000000
theorem tune_bd2 {rows gens : List (List Int)} {v : List Int} (hr : ∀ i, i < rows.length → okB 400 (rw_ rows i)) (hv : okB 48 v) {k : Nat} (hk : k < 6) : ∀ i, i ≤ rows.length → (∀ t, t < i → okB 576 (rw_ gens t)) → -(i * 66355200) ≤ tuneN rows gens v i k ∧ tuneN rows gens v i k ≤ i * 66355200
 | 0, _, _ => by simp [tuneN, psumF]
 | i + 1, hi, hg => by
  have ih := tune_bd2 hr hv hk i (by omega) fun t ht => hg t (by omega)
  have hm := mul_bb (img_bd hr hv (show i < rows.length by omega)) (hg i (by omega) k hk)
  have e : tuneN rows gens v (i + 1) k = tuneN rows gens v i k + (imgF rows v).getD i 0 * (rw_ gens i).getD k 0 := rfl
  rw [e]
  omega
theorem f58 {l gx : AV} {rows gens : List (List Int)} {v : List Int} (hl : RwL l rows) (hmax : rows.length < 9223372036854775807) (hgx : RwL gx gens) (hgm : gens.length < 9223372036854775807) (hv6 : v.length = 6) : WF U11 (.func 58 [] []) [.agg [l], gx, .agg (icells v)] ⟨[], []⟩ fun y m' => y = .tuple [.agg (icells (tunP rows gens v)), .int .i64 (errTu rows gens v)] := by
 have hgl := hgx.len
 have hlc := hl.cells
 unfold AV.cells at hlc
 have hmv : (icells v).length = 6 := by rw [icells_len, hv6]
 have hcv := icells_cut hv6
 have hze : icells zer6 = [.int .i64 0, .int .i64 0, .int .i64 0, .int .i64 0, .int .i64 0, .int .i64 0] := rfl
 have hcz : Zz.cut (icells zer6) 0 6 = some (icells zer6) := rfl
 obtain ⟨x, hx, c48⟩ := x48 hl hmax hv6
 have c48 := fun m => c48 m l (hl.byC _)
 by_cases hb : VT rows ∧ okB 48 v
 ·have hr := hb.1.2.1
  have h3 := hb.1.1.2
  have hv := hb.2
  rw [show imgR rows v = imgF rows v from if_pos hb] at hx
  rw [show errI rows v = 0 from if_pos hb] at c48
  have hxl := IntS.len hx
  rw [img_len] at hxl
  by_cases hgr : gens.length = rows.length
  ·have hgr1 : ((gens.length : Nat) : Int) = ((rows.length : Nat) : Int) := by omega
   refine WF.fnE rfl (fn_of Try.func58 cir58) (by show 3 ≤ 69; decide) ?_
   unfold ir58; dsimp only [k0, kI, mV, oO, oG]
   simp only [padTo, List.replicate, List.nil_append, List.append_nil]
   repeat' (first | (refine WO.opE (by intro; simp (disch := omega) only [go_sem, Zz.look, List.cons_append, List.nil_append, fillP, Nat.reduceAdd, hcv, hgr1]; rfl) (by simp only [pt8, pt0, pt1, pt2, pt3, pt4, pt5, pt6, pt7]; rfl) ?_) | (refine WO.opN (by intro; simp (disch := omega) only [go_sem, Zz.look, Option.bind_eq_bind, Nat.reduceAdd, hgr1, setBlk, List.set_cons_zero, List.set_cons_succ]; rfl) ?_) | (refine WO.opE (by intro; exact ev_lenS (by simp only [go_sem]; first | rfl | assumption)) (by simp only [pt8, pt0, pt2]; rfl) ?_) | (refine WO.specE rfl rfl (c48 _) (by simp only [pt8, pt0]; rfl) ?_) | (refine WC.seq ?_) | (refine WC.region ?_) | (refine WO.nil ?_) | (simp only [fl1]) | (refine WC.no rfl ?_) | (refine WC.skip ?_) | (refine WC.block ?_))
   refine WC.loopI (fun m s => ∃ T w i, s = ⟨T, [some ⟨0, [l]⟩, some ⟨0, icells v⟩, some ⟨0, icells zer6⟩, some ⟨0, icells w⟩], []⟩ ∧ T.length = 69 ∧ gt T 1 = gx ∧ gt T 6 = .pref 2 0 0 ∧ gt T 8 = x ∧ gt T 10 = .pref 3 0 0 ∧ gt T 11 = .int .i64 (i : Nat) ∧ m + i = gens.length ∧ w.length = 6 ∧ (∀ k, k < 6 → w.getD k 0 = tuneN rows gens v i k) ∧ ∀ t, t < i → okB 576 (rw_ gens t)) ?_ gens.length _ ⟨_, zer6, 0, rfl, rfl, rfl, rfl, rfl, rfl, rfl, by omega, rfl, fun k hk => zer_at k, fun t ht => by omega⟩
   rintro m _ ⟨T, w, i, rfl, hT, g1, g6, g8, g10, g11, hm, hwl, hw, hz⟩
   obtain ⟨f, rfl⟩ := ex69 hT
   clear hT
   replace g1 : f 1 = gx := g1
   replace g6 : f 6 = .pref 2 0 0 := g6
   replace g8 : f 8 = x := g8
   replace g10 : f 10 = .pref 3 0 0 := g10
   replace g11 : f 11 = .int .i64 (i : Nat) := g11
   simp only [g1, g6, g8, g10, g11]
   by_cases hi : i < gens.length
   ·have h6 := hgx.six hi
    have hat := hgx.at hi
    have hcut := cut_row (t := tailr gens i) h6
    have hcr : (rw_ gens i).map (AV.int .i64) = icells (rw_ gens i) := rfl
    rw [hcr] at hat hcut
    have c115 := fun m => s115 (m := m) h6
    by_cases hg : okB 576 (rw_ gens i)
    ·rw [decide_eq_true hg] at c115
     have hz1 : ∀ t, t < i + 1 → okB 576 (rw_ gens t) := fun t ht => by
      by_cases e : t = i
      ·rw [e]; exact hg
      ·exact hz t (by omega)
     have hib := img_bd hr hv (show i < rows.length by omega)
     have hit := hx.atI (i := (i : Int)) (by omega) (by rw [img_len]; omega)
     rw [toNat_cast] at hit
     repeat' (first | (refine WO.opE (by intro; simp (disch := omega) only [go_sem, hat, hcut]; rfl) (by simp only [pt8, pt1, pt4, pt5, pt6, pt7]; rfl) ?_) | (refine WO.opE (by intro; exact ev_lenS (by simp only [go_sem]; first | rfl | assumption)) (by simp only [pt8, pt0]; rfl) ?_) | (refine WO.specE rfl rfl (c115 _) (by simp only [pt8, pt0]; rfl) ?_) | (refine WC.seq ?_) | (refine WC.region ?_) | (refine WO.nil ?_) | (simp only [fl1]) | (refine WC.no rfl ?_) | (refine WC.skip ?_) | (refine WC.block ?_) | (refine WC.em2 rfl (fun hp => ?_) (fun hp => ?_) <;> try (exfalso; first | omega | contradiction)))
     refine WC.loopI (fun m2 s => ∃ T w j, s = ⟨T, [some ⟨0, [l]⟩, some ⟨0, icells v⟩, some ⟨0, icells zer6⟩, some ⟨0, icells w⟩], []⟩ ∧ T.length = 69 ∧ gt T 1 = gx ∧ gt T 6 = .pref 2 0 0 ∧ gt T 8 = x ∧ gt T 10 = .pref 3 0 0 ∧ gt T 11 = .int .i64 (i : Nat) ∧ gt T 12 = .int .i64 (j : Nat) ∧ m2 + j = 6 ∧ w.length = 6 ∧ (∀ k, k < j → w.getD k 0 = tuneN rows gens v (i + 1) k) ∧ ∀ k, j ≤ k → k < 6 → w.getD k 0 = tuneN rows gens v i k) ?_ 6 _ ⟨_, w, 0, rfl, rfl, rfl, rfl, rfl, rfl, rfl, rfl, by omega, hwl, fun k hk => by omega, fun k _ hk => hw k hk⟩
     clear g1 g6 g8 g10 g11 f hwl hw w
     rintro m2 _ ⟨T, w, j, rfl, hT, g1, g6, g8, g10, g11, g12, hm2, hwl, hw1, hw2⟩
     obtain ⟨f, rfl⟩ := ex69 hT
     clear hT
     replace g1 : f 1 = gx := g1
     replace g6 : f 6 = .pref 2 0 0 := g6
     replace g8 : f 8 = x := g8
     replace g10 : f 10 = .pref 3 0 0 := g10
     replace g11 : f 11 = .int .i64 (i : Nat) := g11
     replace g12 : f 12 = .int .i64 (j : Nat) := g12
     simp only [g1, g6, g8, g10, g11, g12]
     by_cases hj : j < 6
     ·have hdr := dr_row (t := tailr gens i) (r := rw_ gens i) (j := j) (by omega)
      rw [hcr] at hdr
      have hwa := icells_at (r := w) (j := j) (by omega)
      rw [hw2 j (Nat.le_refl _) hj] at hwa
      have hd : tuneN rows gens v (i + 1) j = tuneN rows gens v i j + (imgF rows v).getD i 0 * (rw_ gens i).getD j 0 := rfl
      have hmc : (rw_ gens i).getD j 0 * (imgF rows v).getD i 0 = (imgF rows v).getD i 0 * (rw_ gens i).getD j 0 := Int.mul_comm _ _
      have hov2 := icells_over (r := w) (j := j) (by omega) (tuneN rows gens v (i + 1) j)
      have b1 := tune_bd2 hr hv hj i (by omega) hz
      have b2 := tune_bd2 hr hv hj (i + 1) (by omega) hz1
      have b3 := mul_bb hib (hg j hj)
      repeat' (first | (refine WO.opE (by intro; simp (disch := omega) only [go_sem, Zz.look, hat, hdr, hit, hwa, hmc, ← hd, Nat.mul_one, Nat.zero_add]; rfl) (by simp only [pt8, pt0, pt1, pt2, pt3, pt4, pt5, pt6, pt7]; rfl) ?_) | (refine WO.opN (by intro; simp (disch := omega) only [go_sem, Zz.look, Option.bind_eq_bind, hov2, Nat.zero_add, setBlk, List.set_cons_zero, List.set_cons_succ]; rfl) ?_) | (refine WC.seq ?_) | (refine WC.region ?_) | (refine WO.nil ?_) | (simp only [fl1, fl10]) | (refine WC.calm rfl ?_) | (refine WC.skip ?_) | (refine WC.block ?_) | (refine WC.em2 rfl (fun hp => ?_) (fun hp => ?_) <;> try (exfalso; first | omega | contradiction)))
      exact ⟨m2 - 1, by omega, _, w.set j (tuneN rows gens v (i + 1) j), j + 1, rfl, rfl, rfl, rfl, rfl, rfl, rfl, rfl, by omega, by simpa using hwl, fun k hk => by
       by_cases e : k = j
       ·subst e; rw [getD_set_self (by omega)]
       ·rw [getD_set_ne (by omega)]; exact hw1 k (by omega), fun k h1 h2 => by rw [getD_set_ne (by omega)]; exact hw2 k (by omega) h2⟩
     ·have hje : j = 6 := by omega
      subst hje
      repeat' (first | (refine WO.opE (by intro; simp (disch := omega) only [go_sem]; rfl) (by simp only [pt8, pt2, pt3, pt4]; rfl) ?_) | (refine WC.seq ?_) | (refine WC.region ?_) | (refine WO.nil ?_) | (simp only [fl1, fl10]) | (refine WC.no rfl ?_) | (refine WC.exit ?_))
      exact ⟨m - 1, by omega, _, w, i + 1, rfl, rfl, rfl, rfl, rfl, rfl, rfl, by omega, hwl, fun k hk => hw1 k hk, hz1⟩
    ·rw [decide_eq_false hg] at c115
     have hno : ¬ tunOK rows gens v := fun h => hg (h.2.2.2 i hi)
     have e1 : tunP rows gens v = zer6 := if_neg fun h => hno h.1
     have e2 : errTu rows gens v = 1 := if_neg hno
     rw [e1, e2]
     rw [hze] at hcz ⊢
     repeat' (first | (refine WO.opE (by intro; simp (disch := omega) only [go_sem, fillP, hat, hcut]; rfl) (by simp only [pt8, pt1, pt2, pt4, pt5, pt6, pt7]; rfl) ?_) | (refine WO.opN (by intro; simp (disch := omega) only [go_sem, Zz.look, Option.bind_eq_bind, Nat.reduceAdd, setBlk, List.set_cons_zero, List.set_cons_succ]; rfl) ?_) | (refine WO.opE (by intro; exact ev_lenS (by simp only [go_sem]; first | rfl | assumption)) (by simp only [pt8, pt0]; rfl) ?_) | (refine WO.specE rfl rfl (c115 _) (by simp only [pt8, pt0]; rfl) ?_) | (refine WC.seq ?_) | (refine WC.region ?_) | (refine WO.nil ?_) | (simp only [fl1, fl2, fl5, fl8]) | (refine WC.yes rfl ?_) | (refine WC.skip ?_) | (refine WC.ret ?_) | (refine WC.block ?_) | (refine WC.em2 rfl (fun hp => ?_) (fun hp => ?_) <;> try (exfalso; first | omega | contradiction)))
     exact ⟨_, rfl, rfl⟩
   ·have hie : i = gens.length := by omega
    subst hie
    have hok : tunOK rows gens v := ⟨hb.1, hgr, hv, hz⟩
    have hwe : w = tuneF rows gens v := getD_ext (by rw [hwl]; simp [tuneF]) fun k hk => by rw [hw k (by omega), tune_at (by omega), hgr]
    subst hwe
    have hov := fun x0 x1 x2 x3 x4 x5 => icells_over6 hwl (x0 := x0) (x1 := x1) (x2 := x2) (x3 := x3) (x4 := x4) (x5 := x5)
    have hml : (icells (tuneF rows gens v)).length = 6 := by rw [icells_len, hwl]
    have hcut0 := icells_cut hwl
    have c115 := fun m => s115 (m := m) hwl
    by_cases hp : okB 576 (tuneF rows gens v)
    ·rw [decide_eq_true hp] at c115
     have e1 : tunP rows gens v = tuneF rows gens v := if_pos ⟨hok, hp⟩
     have e2 : errTu rows gens v = 0 := by unfold errTu; rw [if_pos hok, if_pos hp]
     have hcz := hcut0
     rw [e1, e2]
     rw [hze]
     repeat' (first | (refine WO.opE (by intro; simp (disch := omega) only [go_sem, Zz.look, hcut0]; rfl) (by simp only [pt8, pt0, pt1, pt2, pt4, pt6, pt7]; rfl) ?_) | (refine WO.opN (by intro; simp (disch := omega) only [go_sem, Zz.look, Option.bind_eq_bind, hov, hml, setBlk, List.set_cons_zero, List.set_cons_succ]; rfl) ?_) | (refine WO.opE (by intro; exact ev_lenS (by simp only [go_sem]; first | rfl | assumption)) (by simp only [pt8, pt0]; rfl) ?_) | (refine WO.specE rfl rfl (c115 _) (by simp only [pt8, pt1]; rfl) ?_) | (refine WC.seq ?_) | (refine WC.region ?_) | (refine WO.nil ?_) | (simp only [fl1]) | (refine WC.no rfl ?_) | (refine WC.skip ?_) | (refine WC.exit ?_) | (refine WC.ret ?_) | (refine WC.em2 rfl (fun hp => ?_) (fun hp => ?_) <;> try (exfalso; first | omega | contradiction)))
     exact ⟨_, by simp only [evRes, gt6, gt7, Zz.look, List.getElem?_cons_zero, List.getElem?_cons_succ, loadCs, hcz, if_true, Option.bind_some, Option.map_some]; rfl, rfl⟩
    ·rw [decide_eq_false hp] at c115
     have e1 : tunP rows gens v = zer6 := if_neg fun h => hp h.2
     have e2 : errTu rows gens v = 3 := by unfold errTu; rw [if_pos hok, if_neg hp]
     rw [e1, e2]
     rw [hze]
     repeat' (first | (refine WO.opE (by intro; simp (disch := omega) only [go_sem, Zz.look, fillP, hcut0]; rfl) (by simp only [pt8, pt0, pt1, pt2, pt3, pt6, pt7]; rfl) ?_) | (refine WO.opN (by intro; simp (disch := omega) only [go_sem, Zz.look, Option.bind_eq_bind, Nat.reduceAdd, setBlk, List.set_cons_zero, List.set_cons_succ]; rfl) ?_) | (refine WO.opE (by intro; exact ev_lenS (by simp only [go_sem]; first | rfl | assumption)) (by simp only [pt8, pt0]; rfl) ?_) | (refine WO.specE rfl rfl (c115 _) (by simp only [pt8, pt1]; rfl) ?_) | (refine WC.seq ?_) | (refine WC.region ?_) | (refine WO.nil ?_) | (simp only [fl1, fl2]) | (refine WC.yes rfl ?_) | (refine WC.exit ?_) | (refine WC.ret ?_) | (refine WC.em2 rfl (fun hp => ?_) (fun hp => ?_) <;> try (exfalso; first | omega | contradiction)))
     exact ⟨_, rfl, rfl⟩
  ·have hgr1 : ¬ ((gens.length : Nat) : Int) = ((rows.length : Nat) : Int) := by omega
   have hno : ¬ tunOK rows gens v := fun h => hgr h.2.1
   rw [show tunP rows gens v = zer6 from if_neg fun h => hno h.1, show errTu rows gens v = 1 from if_neg hno]
   refine WF.fnE rfl (fn_of Try.func58 cir58) (by show 3 ≤ 69; decide) ?_
   unfold ir58; dsimp only [k0, kI, mV, oO, oG]
   simp only [padTo, List.replicate, List.nil_append, List.append_nil]
   repeat' (first | (refine WO.opE (by intro; simp (disch := omega) only [go_sem, Zz.look, List.cons_append, List.nil_append, fillP, Nat.reduceAdd, hcv]; rfl) (by simp only [pt8, pt0, pt1, pt2, pt3, pt4, pt5, pt6, pt7]; rfl) ?_) | (refine WO.opN (by intro; simp (disch := omega) only [go_sem, Zz.look, Option.bind_eq_bind, Nat.reduceAdd, setBlk, List.set_cons_zero, List.set_cons_succ]; rfl) ?_) | (refine WO.opE (by intro; exact ev_lenS (by simp only [go_sem]; first | rfl | assumption)) (by simp only [pt8, pt0, pt2]; rfl) ?_) | (refine WO.specE rfl rfl (c48 _) (by simp only [pt8, pt0]; rfl) ?_) | (refine WC.seq ?_) | (refine WC.region ?_) | (refine WO.nil ?_) | (simp only [fl1, fl2]) | (refine WC.no rfl ?_) | (refine WC.skip ?_) | (refine WC.ret ?_) | (refine WC.em2 rfl (fun hp => ?_) (fun hp => ?_) <;> try (exfalso; first | omega | contradiction)))
   exact ⟨_, rfl, rfl⟩
 ·have hno : ¬ tunOK rows gens v := fun h => hb ⟨h.1, h.2.2.1⟩
  rw [show tunP rows gens v = zer6 from if_neg fun h => hno h.1, show errTu rows gens v = 1 from if_neg hno]
  rw [show errI rows v = 1 from if_neg hb] at c48
  refine WF.fnE rfl (fn_of Try.func58 cir58) (by show 3 ≤ 69; decide) ?_
  unfold ir58; dsimp only [k0, kI, mV, oO, oG]
  simp only [padTo, List.replicate, List.nil_append, List.append_nil]
  repeat' (first | (refine WO.opE (by intro; simp (disch := omega) only [go_sem, Zz.look, List.cons_append, List.nil_append, fillP, Nat.reduceAdd, hcv]; rfl) (by simp only [pt8, pt0, pt1, pt2, pt3, pt4, pt5, pt6, pt7]; rfl) ?_) | (refine WO.opN (by intro; simp (disch := omega) only [go_sem, Zz.look, Option.bind_eq_bind, Nat.reduceAdd, setBlk, List.set_cons_zero, List.set_cons_succ]; rfl) ?_) | (refine WO.specE rfl rfl (c48 _) (by simp only [pt8, pt0]; rfl) ?_) | (refine WC.seq ?_) | (refine WC.region ?_) | (refine WO.nil ?_) | (simp only [fl1, fl2]) | (refine WC.yes rfl ?_) | (refine WC.ret ?_))
  exact ⟨_, rfl, rfl⟩
theorem x58 {l l' gx gx' : AV} {rows gens : List (List Int)} {v : List Int} (hl : RwL l rows) (hmax : rows.length < 9223372036854775807) (hgx : RwL gx gens) (hgm : gens.length < 9223372036854775807) (hv6 : v.length = 6) {m : Mem} (h0 : Zz.byC m.heap l' = some l) (h1 : Zz.byVal m.heap gx' = some gx) :
  borrowX U11 58 [.agg [l'], gx', .agg (icells v)] m = some (.tuple [.agg (icells (tunP rows gens v)), .int .i64 (errTu rows gens v)], m) :=
 borrowX_of (byVals_cons (byMap h0) (byVals_cons h1 (byVals_cons (byI _ _) rfl))) ((f58 hl hmax hgx hgm hv6).mono fun y m' h => by rw [h]; exact newV_two (newI6 _ _))
noncomputable def U12 : Env := U11.put 58 (borrowX U11 58)
theorem U12_ok : EnvOk Try.prog U12 := Env.put_ok U11_ok (borrowX_ok U11_ok (callable Try.func58 (by kernel_rfl)))
theorem f60 {l gx : AV} {rows gens : List (List Int)} {v : List Int} (hl : RwL l rows) (hmax : rows.length < 9223372036854775807) (hgx : RwL gx gens) (hgm : gens.length < 9223372036854775807) (hv6 : v.length = 6) : WF U12 (.func 60 [] []) [.agg [l], gx, .agg (icells v)] ⟨[], []⟩ fun y m' => y = .tuple [.bool (pureR rows gens v), .int .i64 (errTu rows gens v)] := by
 have hlc := hl.cells
 unfold AV.cells at hlc
 have hmv : (icells v).length = 6 := by rw [icells_len, hv6]
 have hcv := icells_cut hv6
 have c58 := fun m => x58 (m := m) hl hmax hgx hgm hv6 (hl.byC _) (hgx.byVal _)
 have h6 : (tunP rows gens v).length = 6 := tun_len
 have hov := fun x0 x1 x2 x3 x4 x5 => icells_over6 h6 (x0 := x0) (x1 := x1) (x2 := x2) (x3 := x3) (x4 := x4) (x5 := x5)
 have hml : (icells (tunP rows gens v)).length = 6 := by rw [icells_len, h6]
 by_cases he : errTu rows gens v = 0
 ·obtain ⟨hok, _, _⟩ := err_ok he
  rw [he] at c58 ⊢
  refine WF.fnE rfl (fn_of Try.func60 cir60) (by show 3 ≤ 33; decide) ?_
  unfold ir60; dsimp only [k0, kI, mV, oO, oG]
  simp only [padTo, List.replicate, List.nil_append, List.append_nil]
  repeat' (first | (refine WO.opE (by intro; simp (disch := omega) only [go_sem, Zz.look, List.cons_append, List.nil_append, Nat.reduceAdd, hcv]; rfl) (by simp only [pt8, pt0, pt1, pt2, pt3, pt4, pt5, pt6, pt7]; rfl) ?_) | (refine WO.opN (by intro; simp (disch := omega) only [go_sem, Zz.look, Option.bind_eq_bind, hov, hml, setBlk, List.set_cons_zero, List.set_cons_succ]; rfl) ?_) | (refine WO.specE rfl rfl (c58 _) (by simp only [pt8, pt7]; rfl) ?_) | (refine WC.seq ?_) | (refine WC.region ?_) | (refine WO.nil ?_) | (simp only [fl1]) | (refine WC.no rfl ?_) | (refine WC.skip ?_) | (refine WC.block ?_))
  refine WC.loopI (fun m s => ∃ T j, s = ⟨T, [some ⟨0, [l]⟩, some ⟨0, icells v⟩, some ⟨0, icells (tunP rows gens v)⟩], []⟩ ∧ T.length = 33 ∧ gt T 5 = .pref 1 0 0 ∧ gt T 8 = .pref 2 0 0 ∧ gt T 10 = .int .i64 (j : Nat) ∧ m + j = 6 ∧ ∀ t, t < j → (tunP rows gens v).getD t 0 = v.getD t 0 * 12) ?_ 6 _ ⟨_, 0, rfl, rfl, rfl, rfl, rfl, by omega, fun t ht => by omega⟩
  rintro m _ ⟨T, j, rfl, hT, g5, g8, g10, hm, hz⟩
  obtain ⟨f, rfl⟩ := ex33 hT
  clear hT
  replace g5 : f 5 = .pref 1 0 0 := g5
  replace g8 : f 8 = .pref 2 0 0 := g8
  replace g10 : f 10 = .int .i64 (j : Nat) := g10
  simp only [g5, g8, g10]
  by_cases hj : j < 6
  ·have hia := icells_at (r := tunP rows gens v) (j := j) (by omega)
   have hib := icells_at (r := v) (j := j) (by omega)
   have hbj := hok.2.2.1 j hj
   by_cases h0 : (tunP rows gens v).getD j 0 = v.getD j 0 * 12
   ·have h0' : (tunP rows gens v).getD j 0 = 12 * v.getD j 0 := by omega
    rw [h0'] at hia
    repeat' (first | (refine WO.opE (by intro; simp (disch := omega) only [go_sem, Zz.look, hia, hib, Nat.mul_one, Nat.zero_add]; rfl) (by simp only [pt8, pt0, pt1, pt2, pt3, pt4, pt5, pt6, pt7]; rfl) ?_) | (refine WC.seq ?_) | (refine WC.region ?_) | (refine WO.nil ?_) | (simp only [fl1, fl10]) | (refine WC.calm rfl ?_) | (refine WC.no rfl ?_) | (refine WC.skip ?_) | (refine WC.block ?_) | (refine WC.em2 rfl (fun hp => ?_) (fun hp => ?_) <;> try (exfalso; first | omega | contradiction)))
    exact ⟨m - 1, by omega, _, j + 1, rfl, rfl, rfl, rfl, rfl, by omega, fun t ht => by
     by_cases e : t = j
     ·subst e; exact h0
     ·exact hz t (by omega)⟩
   ·have hd : pureR rows gens v = false := decide_eq_false fun h => h0 (by rw [h.2, mul12_at])
    have h0' : ¬ (tunP rows gens v).getD j 0 = 12 * v.getD j 0 := by omega
    generalize (tunP rows gens v).getD j 0 = y at *
    generalize v.getD j 0 = z at *
    repeat' (first | (refine WO.opE (by intro; simp (disch := omega) only [go_sem, Zz.look, hia, hib, Nat.mul_one, Nat.zero_add]; rfl) (by simp only [pt8, pt0, pt1, pt2, pt3, pt4, pt5, pt6, pt7]; rfl) ?_) | (refine WC.seq ?_) | (refine WC.region ?_) | (refine WO.nil ?_) | (simp only [fl1, fl2, fl5, fl8]) | (refine WC.calm rfl ?_) | (refine WC.skip ?_) | (refine WC.ret ?_) | (refine WC.block ?_) | (refine WC.em2 rfl (fun hp => ?_) (fun hp => ?_) <;> try (exfalso; first | omega | contradiction)))
    exact ⟨_, rfl, by rw [hd]; rfl⟩
  ·have hje : j = 6 := by omega
   subst hje
   have hd : pureR rows gens v = true := decide_eq_true ⟨he, getD_ext (by rw [h6]; simp [mul12, hv6]) fun t ht => by rw [hz t (by omega), mul12_at]⟩
   repeat' (first | (refine WO.opE (by intro; simp (disch := omega) only [go_sem]; rfl) (by simp only [pt8, pt5, pt6, pt7]; rfl) ?_) | (refine WC.seq ?_) | (refine WC.region ?_) | (refine WO.nil ?_) | (simp only [fl1]) | (refine WC.no rfl ?_) | (refine WC.exit ?_) | (refine WC.ret ?_))
   exact ⟨_, rfl, by rw [hd]; rfl⟩
 ·have hd : pureR rows gens v = false := decide_eq_false fun h => he h.1
  rw [hd]
  generalize errTu rows gens v = er at *
  refine WF.fnE rfl (fn_of Try.func60 cir60) (by show 3 ≤ 33; decide) ?_
  unfold ir60; dsimp only [k0, kI, mV, oO, oG]
  simp only [padTo, List.replicate, List.nil_append, List.append_nil]
  repeat' (first | (refine WO.opE (by intro; simp (disch := omega) only [go_sem, Zz.look, List.cons_append, List.nil_append, Nat.reduceAdd, hcv]; rfl) (by simp only [pt8, pt0, pt1, pt2, pt3, pt4, pt5, pt6, pt7]; rfl) ?_) | (refine WO.opN (by intro; simp (disch := omega) only [go_sem, Zz.look, Option.bind_eq_bind, hov, hml, setBlk, List.set_cons_zero, List.set_cons_succ]; rfl) ?_) | (refine WO.specE rfl rfl (c58 _) (by simp only [pt8, pt7]; rfl) ?_) | (refine WC.seq ?_) | (refine WC.region ?_) | (refine WO.nil ?_) | (simp only [fl1, fl2]) | (refine WC.ret ?_) | (refine WC.em2 rfl (fun hp => ?_) (fun hp => ?_) <;> try (exfalso; first | omega | contradiction)))
  exact ⟨_, rfl, rfl⟩
theorem x60 {l l' gx gx' : AV} {rows gens : List (List Int)} {v : List Int} (hl : RwL l rows) (hmax : rows.length < 9223372036854775807) (hgx : RwL gx gens) (hgm : gens.length < 9223372036854775807) (hv6 : v.length = 6) {m : Mem} (h0 : Zz.byC m.heap l' = some l) (h1 : Zz.byVal m.heap gx' = some gx) :
  borrowX U12 60 [.agg [l'], gx', .agg (icells v)] m = some (.tuple [.bool (pureR rows gens v), .int .i64 (errTu rows gens v)], m) :=
 borrowX_of (byVals_cons (byMap h0) (byVals_cons h1 (byVals_cons (byI _ _) rfl))) ((f60 hl hmax hgx hgm hv6).mono fun y m' h => by rw [h]; rfl)
noncomputable def U13 : Env := U12.put 60 (borrowX U12 60)
theorem U13_ok : EnvOk Try.prog U13 := Env.put_ok U12_ok (borrowX_ok U12_ok (callable Try.func60 (by kernel_rfl)))
noncomputable def U14 : Env := U13.put 51 (borrowX U8 51)
theorem U14_ok : EnvOk Try.prog U14 := Env.put_ok U13_ok (borrowX_ok U8_ok (callable Try.func51 (by kernel_rfl)))
theorem run10 {l gx c : AV} {rows gens cs : List (List Int)} {v : List Int} (hl : RwL l rows) (hmax : rows.length < 9223372036854775807) (hgx : RwL gx gens) (hgm : gens.length < 9223372036854775807) (hc : RwL c cs) (hcm : cs.length < 9223372036854775807) (hv6 : v.length = 6) : WF U14 (.func 10 [] []) [.agg [l], gx, .agg (icells v), c] ⟨[], []⟩ fun y m' => y = .bool true := by
 have h6 : Six rows := fun i hi => hl.six hi
 have h6c : Six cs := fun i hi => hc.six hi
 have hlc := hl.cells
 unfold AV.cells at hlc
 have hmv : (icells v).length = 6 := by rw [icells_len, hv6]
 have hcv := icells_cut hv6
 have c44 := fun m => s44 (m := m)
 have c45 := fun m => x45 (m := m) hl hmax (hl.byC _)
 have c46 := fun m => x46 (m := m) hl hmax (hl.byC _)
 obtain ⟨x1, hx1, c47⟩ := x47 hl hmax hv6
 obtain ⟨x2, hx2, c48⟩ := x48 hl hmax hv6
 have c47 := fun m => c47 m l (hl.byC _)
 have c48 := fun m => c48 m l (hl.byC _)
 have c50 := fun m => x50 (m := m) hl hmax hv6 (hl.byC _)
 have c51 := fun m => x51 (m := m) hl hmax hv6 (hl.byC _)
 obtain ⟨x3, hx3, c52⟩ := x52 hl hmax
 obtain ⟨x4, hx4, c53⟩ := x53 hl hmax
 have c52 := fun m => c52 m l (hl.byC _)
 have c53 := fun m => c53 m l (hl.byC _)
 obtain ⟨x5, hx5, c55⟩ := x55 hc hcm
 obtain ⟨x6, hx6, c56⟩ := x56 hc hcm
 have c55 := fun m => c55 m c (hc.byVal _)
 have c56 := fun m => c56 m c (hc.byVal _)
 have c57 := fun m => x57 (m := m) hl hmax hgx hgm hv6 (hl.byC _) (hgx.byVal _)
 have c58 := fun m => x58 (m := m) hl hmax hgx hgm hv6 (hl.byC _) (hgx.byVal _)
 have c59 := fun m => x59 (m := m) hl hmax hgx hgm hv6 (hl.byC _) (hgx.byVal _)
 have c60 := fun m => x60 (m := m) hl hmax hgx hgm hv6 (hl.byC _) (hgx.byVal _)
 have l1 : (imgR rows v).length < 1000000 := by
  unfold imgR
  split
  ·rename_i h; rw [img_len]; have := h.1.1.2; omega
  ·decide
 have l2 : (kerT rows).length < 1000000 := by
  unfold kerT
  split
  ·rename_i h; have h1 := (ker_lat h.2.2.1 h6).len; have h2 := free_all (bwd_B h.2.2.1 h6).j; omega
  ·decide
 have l3 : (fromR cs).length < 1000000 := by
  unfold fromR
  split
  ·rename_i h; have := h.2.1.2; omega
  ·decide
 have c49 := fun m => x49 (m := m) hx1 hx2 l1 (IntS.byVal hx1 _) (IntS.byVal hx2 _)
 have c54 := fun m => x54 (m := m) hx3 hx4 l2 (hx3.byVal _) (hx4.byVal _)
 have d54 := fun m => x54 (m := m) hx5 hx6 l3 (hx5.byVal _) (hx6.byVal _)
 simp only [decide_true] at c49 c54 d54
 have n5 := hx5.cells
 have n6 := hx6.cells
 unfold AV.cells at n5 n6
 have g6 : (tunP rows gens v).length = 6 := tun_len
 have hov := fun x0 x1 x2 x3 x4 x5 => icells_over6 g6 (x0 := x0) (x1 := x1) (x2 := x2) (x3 := x3) (x4 := x4) (x5 := x5)
 have hml : (icells (tunP rows gens v)).length = 6 := by rw [icells_len, g6]
 have hct := icells_cut g6
 have hce := cellsEq_int (r := tunP rows gens v) (r' := tunP rows gens v) rfl
 rw [g6, decide_eq_true rfl] at hce
 have hce' : cellsEq [true, true, true, true, true, true] (icells (tunP rows gens v)) (icells (tunP rows gens v)) = some true := hce
 generalize errI rows v = e1 at *
 generalize errT rows = e2 at *
 generalize errF cs = e3 at *
 generalize errTu rows gens v = e4 at *
 generalize tunP rows gens v = tp at *
 generalize decide (VT rows) = b1 at *
 generalize tempR rows v = b2 at *
 generalize pureR rows gens v = b3 at *
 clear hx1 hx2 hx3 hx4 hx5 hx6 l1 l2 l3
 refine WF.fnE rfl (fn_of Try.func10 cir10) (by show 4 ≤ 170; decide) ?_
 unfold ir10; dsimp only [k0, kI, mV, oO, oG]
 simp only [padTo, List.replicate, List.nil_append, List.append_nil]
 repeat' (first | (refine WO.yes rfl ?_) | (refine WO.opE (by intro; simp (disch := omega) only [go_sem, Zz.look, List.cons_append, List.nil_append, Nat.reduceAdd, hcv, hct, hce', beq_self_eq_true, Option.map_some]; rfl) (by simp only [pt8, pt0, pt1, pt2, pt3, pt4, pt5, pt6, pt7]; rfl) ?_) | (refine WO.opN (by intro; simp (disch := omega) only [go_sem, Zz.look, Option.bind_eq_bind, ov_one0, hov, hml, Option.map_some, setBlk, List.set_cons_zero, List.set_cons_succ]; rfl) ?_) | (refine WT.spec rfl rfl (fun V => c44 ⟨V, []⟩) (by simp only [pt8, pt6]; rfl) ?_) | (refine WT.spec rfl rfl (fun V => c45 ⟨V, []⟩) (by simp only [pt8, pt1]; rfl) ?_) | (refine WT.spec rfl rfl (fun V => c46 ⟨V, []⟩) (by simp only [pt8, pt3]; rfl) ?_) | (refine WO.specE rfl rfl (c47 _) (by simp only [pt8, pt1]; rfl) ?_) | (refine WO.specE rfl rfl (c48 _) (by simp only [pt8, pt7]; rfl) ?_) | (refine WO.specE rfl rfl (c49 _) (by simp only [pt8, pt6]; rfl) ?_) | (refine WO.specE rfl rfl (c50 _) (by simp only [pt8, pt0]; rfl) ?_) | (refine WO.specE rfl rfl (c51 _) (by simp only [pt8, pt6]; rfl) ?_) | (refine WO.specE rfl rfl (c52 _) (by simp only [pt8, pt6]; rfl) ?_) | (refine WO.specE rfl rfl (c53 _) (by simp only [pt8, pt3]; rfl) ?_) | (refine WO.specE rfl rfl (c54 _) (by simp only [pt8, pt2]; rfl) ?_) | (refine WO.specE rfl rfl (c55 _) (by simp only [pt8, pt3]; rfl) ?_) | (refine WO.specE rfl rfl (c56 _) (by simp only [pt8, pt0]; rfl) ?_) | (refine WO.specE rfl rfl (d54 _) (by simp only [pt8, pt1]; rfl) ?_) | (refine WO.specE rfl rfl (c57 _) (by simp only [pt8, pt4]; rfl) ?_) | (refine WO.specE rfl rfl (c58 _) (by simp only [pt8, pt3]; rfl) ?_) | (refine WO.specE rfl rfl (c59 _) (by simp only [pt8, pt5]; rfl) ?_) | (refine WO.specE rfl rfl (c60 _) (by simp only [pt8, pt4]; rfl) ?_) | (refine WC.seq ?_) | (refine WC.region ?_) | (refine WO.nil ?_) | (simp only [fl1]) | (refine WC.drawT ?_) | (refine WT.nil ?_) | (refine WT.yes rfl ?_) | (refine WT.free rfl (by intro; simp (disch := omega) only [go_sem, Zz.look, beq_self_eq_true]; rfl) rfl (by simp only [pt8, pt0, pt1, pt2, pt4, pt5, pt7]; rfl) ?_) | (refine WT.big rfl rfl (by intro; simp (disch := omega) only [go_sem, Zz.look]; rfl) (by simp (disch := omega) only [go_sem, touch]; rfl) (by first | exact .inl rfl | exact .inr (apart_nil _) | exact .inr trivial | (right; apply apart_mk; simp only [apartL, List.nil_append, List.cons_append, List.getElem?_cons_succ, List.getElem?_cons_zero, Tch.free, and_true, true_and]; first | done | omega)) (by simp only [pt8, pt0, pt2]; rfl) ?_) | (refine WC.ret ?_))
 exact ⟨_, rfl, rfl⟩
end Go.Proofs.Ytnilimjkibimcaa

