import Derived.Test.YtnilimjkibimcaaLm
import Derived.Test.YtnilimjkibimcaaQF
import Derived.Test.YtnilimjkibimcaaIrY
import Derived.Test.YtnilimjkibimcaaPQ

set_option linter.unusedSimpArgs false
set_option linter.unusedVariables false

namespace Go.Proofs.Ytnilimjkibimcaa
open Go.Zz
set_option maxRecDepth 100000
set_option maxHeartbeats 8000000
theorem hermRR_eq {rows : List (List Int)} (h6 : Six rows) : hermRR rows = hermR rows := by
 unfold hermR hermRR
 split
 ·rename_i hv; exact (hermF_eq hv h6).symm
 ·rfl
noncomputable def O1 : Env := N21.put 28 (borrowX E17 28)
theorem O1_ok : EnvOk Try.prog O1 := Env.put_ok N21_ok (borrowX_ok E17_ok (callable Try.func28 (by kernel_rfl)))
theorem f127 {r : List Int} {p : Nat} (h6 : r.length = 6) (hp6 : p < 6) (hz : ∀ t, t < p → r.getD t 0 = 0) (hpp : r.getD p 0 ≠ 0) : WF O1 (.func 127 [] []) [.agg (icells r)] ⟨[], []⟩ fun y m' => y = .int .i64 (p : Nat) := by
 have hml : (icells r).length = 6 := by rw [icells_len, h6]
 have hcut := icells_cut h6
 refine WF.fnE rfl (fn_of Try.func127 cir127) (by show 1 ≤ 13; decide) ?_
 unfold ir127
 simp only [padTo, List.replicate, zNA, zAN]
 repeat' (first | (refine WO.opE (by intro; simp (disch := omega) only [go_sem]; rfl) (by simp only [pt1, pt2, pt3]; rfl) ?_) | (refine WC.seq ?_) | (refine WC.region ?_) | (refine WO.nil ?_) | (simp only [fl1]) | (refine WC.block ?_))
 refine WC.loopI (fun m s => ∃ T j, s = ⟨T, [some ⟨0, icells r⟩], []⟩ ∧ T.length = 13 ∧ gt T 1 = .pref 0 0 0 ∧ gt T 3 = .int .i64 (j : Nat) ∧ m + j = 6 ∧ j ≤ p) ?_ 6 _ ⟨_, 0, rfl, rfl, rfl, rfl, by omega, by omega⟩
 rintro m _ ⟨T, j, rfl, hT, g1, g3, hm, hjp⟩
 obtain ⟨f, rfl⟩ := ex13 hT
 clear hT
 replace g1 : f 1 = .pref 0 0 0 := g1
 replace g3 : f 3 = .int .i64 (j : Nat) := g3
 simp only [g1, g3]
 have hia := icells_at (r := r) (j := j) (by omega)
 by_cases hje : j = p
 ·subst hje
  repeat' (first | (refine WO.opE (by intro; simp (disch := omega) only [go_sem, Zz.look, hia, Nat.mul_one]; rfl) (by simp only [pt8, pt0, pt1, pt2, pt3, pt4, pt5]; rfl) ?_) | (refine WC.seq ?_) | (refine WC.region ?_) | (refine WO.nil ?_) | (simp only [fl1, fl2, fl5, fl8]) | (refine WC.skip ?_) | (refine WC.ret ?_) | (refine WC.block ?_) | (refine WC.em2 rfl (fun hp => ?_) (fun hp => ?_) <;> try (exfalso; first | omega | contradiction)))
  all_goals first
   | exact ⟨_, rfl, rfl⟩
   | exact absurd (by assumption) hpp
 ·have hz0 := hz j (by omega)
  rw [hz0] at hia
  repeat' (first | (refine WO.opE (by intro; simp (disch := omega) only [go_sem, Zz.look, hia, Nat.mul_one]; rfl) (by simp only [pt8, pt0, pt1, pt2, pt3, pt4, pt5, pt6, pt7]; rfl) ?_) | (refine WC.seq ?_) | (refine WC.region ?_) | (refine WO.nil ?_) | (simp only [fl1, fl10]) | (refine WC.no rfl ?_) | (refine WC.skip ?_) | (refine WC.block ?_) | (refine WC.em2 rfl (fun hp => ?_) (fun hp => ?_) <;> try (exfalso; first | omega | contradiction)))
  exact ⟨m - 1, by omega, _, j + 1, rfl, rfl, rfl, rfl, by omega, by omega⟩
theorem s127 {r : List Int} {p : Nat} (h6 : r.length = 6) (hp6 : p < 6) (hz : ∀ t, t < p → r.getD t 0 = 0) (hpp : r.getD p 0 ≠ 0) {m : Mem} : borrowE O1 127 [.agg (icells r)] m = some (.int .i64 (p : Nat), m) :=
 borrowE_of (pures_cons (pureI r) rfl) ((f127 h6 hp6 hz hpp).mono fun y m' h => by rw [h]; rfl)
noncomputable def O2 : Env := O1.put 127 (borrowE O1 127)
theorem O2_ok : EnvOk Try.prog O2 := Env.put_ok O1_ok (borrowE_ok O1_ok (callable Try.func127 (by kernel_rfl)))
theorem f129 {v r : List Int} {q : Int} (hv6 : v.length = 6) (hr6 : r.length = 6) (hv : okB 1000000000 v) (hr : okB 6000000000 r) (hq : -1000000000 ≤ q ∧ q ≤ 1000000000) : WF O2 (.func 129 [] []) [.agg (icells v), .int .i64 q, .agg (icells r)] ⟨[], []⟩ fun y m' => y = .agg (icells (subV v q r)) := by
 have hmv : (icells v).length = 6 := by rw [icells_len, hv6]
 have hmr : (icells r).length = 6 := by rw [icells_len, hr6]
 refine WF.fnE rfl (fn_of Try.func129 cir129) (by show 3 ≤ 24; decide) ?_
 unfold ir129
 simp only [padTo, List.replicate, zNA, zAN]
 repeat' (first | (refine WO.opE (by intro; simp (disch := omega) only [go_sem, zCA, zNA, Nat.reduceAdd]; rfl) (by simp only [pt3, pt5, pt6, pt7]; rfl) ?_) | (refine WC.seq ?_) | (refine WC.region ?_) | (refine WO.nil ?_) | (simp only [fl1]) | (refine WC.block ?_))
 refine WC.loopI (fun m s => ∃ T j w, s = ⟨T, [some ⟨0, icells w⟩, some ⟨0, icells r⟩, some ⟨0, icells zer6⟩], []⟩ ∧ T.length = 24 ∧ gt T 1 = .int .i64 q ∧ gt T 3 = .pref 0 0 0 ∧ gt T 5 = .pref 1 0 0 ∧ gt T 6 = .pref 2 0 0 ∧ gt T 7 = .int .i64 (j : Nat) ∧ m + j = 6 ∧ w.length = 6 ∧ (∀ t, t < j → w.getD t 0 = v.getD t 0 - q * r.getD t 0) ∧ ∀ t, j ≤ t → w.getD t 0 = v.getD t 0) ?_ 6 _ ⟨_, 0, v, rfl, rfl, rfl, rfl, rfl, rfl, rfl, by omega, hv6, fun t ht => by omega, fun t _ => rfl⟩
 rintro m _ ⟨T, j, w, rfl, hT, g1, g3, g5, g6, g7, hm, hw6, hw1, hw2⟩
 obtain ⟨f, rfl⟩ := ex24 hT
 clear hT
 replace g1 : f 1 = .int .i64 q := g1
 replace g3 : f 3 = .pref 0 0 0 := g3
 replace g5 : f 5 = .pref 1 0 0 := g5
 replace g6 : f 6 = .pref 2 0 0 := g6
 replace g7 : f 7 = .int .i64 (j : Nat) := g7
 simp only [g1, g3, g5, g6, g7]
 have hwl : (icells w).length = 6 := by rw [icells_len, hw6]
 by_cases hj : j < 6
 ·have hia := icells_at (r := w) (j := j) (by omega)
  rw [hw2 j (Nat.le_refl _)] at hia
  have hib := icells_at (r := r) (j := j) (by omega)
  have hov := icells_over (r := w) (j := j) (by omega) (v.getD j 0 - q * r.getD j 0)
  have hvj := hv j hj
  have hrj := hr j hj
  have hm1 := mul_b2 hq hrj
  repeat' (first | (refine WO.opE (by intro; simp (disch := omega) only [go_sem, Zz.look, hia, hib, Nat.mul_one, Nat.zero_add]; rfl) (by simp only [pt8, pt0, pt1, pt2, pt3, pt4, pt5, pt6, pt7]; rfl) ?_) | (refine WO.opN (by intro; simp (disch := omega) only [go_sem, Zz.look, Option.bind_eq_bind, hov, Nat.zero_add, setBlk, List.set_cons_zero]; rfl) ?_) | (refine WC.seq ?_) | (refine WC.region ?_) | (refine WO.nil ?_) | (simp only [fl1, fl10]) | (refine WC.calm rfl ?_) | (refine WC.skip ?_) | (refine WC.block ?_) | (refine WC.em2 rfl (fun hp => ?_) (fun hp => ?_) <;> try (exfalso; first | omega | contradiction)))
  exact ⟨m - 1, by omega, _, j + 1, w.set j (v.getD j 0 - q * r.getD j 0), rfl, rfl, rfl, rfl, rfl, rfl, rfl, by omega, by simpa using hw6, fun t ht => by
   by_cases e : t = j
   ·subst e; rw [getD_set_self (by omega)]
   ·rw [getD_set_ne (by omega)]; exact hw1 t (by omega), fun t ht => by rw [getD_set_ne (by omega)]; exact hw2 t (by omega)⟩
 ·have hje : j = 6 := by omega
  subst hje
  have hwe : w = subV v q r := getD_ext (by rw [hw6, sub_len]) fun t ht => by rw [hw1 t (by omega), sub_at (by omega)]
  subst hwe
  have hcz := icells_cut hw6
  have hov := fun x0 x1 x2 x3 x4 x5 => icells_over6 hw6 (x0 := x0) (x1 := x1) (x2 := x2) (x3 := x3) (x4 := x4) (x5 := x5)
  have hze : icells zer6 = [.int .i64 0, .int .i64 0, .int .i64 0, .int .i64 0, .int .i64 0, .int .i64 0] := rfl
  rw [hze]
  repeat' (first | (refine WO.opE (by intro; simp (disch := omega) only [go_sem, Zz.look, hcz]; rfl) (by simp only [pt8, pt0, pt1, pt7]; rfl) ?_) | (refine WO.opN (by intro; simp (disch := omega) only [go_sem, Zz.look, Option.bind_eq_bind, hwl, hov, setBlk, List.set_cons_zero, List.set_cons_succ]; rfl) ?_) | (refine WC.seq ?_) | (refine WC.region ?_) | (refine WO.nil ?_) | (simp only [fl1]) | (refine WC.no rfl ?_) | (refine WC.exit ?_) | (refine WC.ret ?_))
  exact ⟨_, by simp only [evRes, gt6, Zz.look, List.getElem?_cons_zero, List.getElem?_cons_succ, loadCs, hcz, if_true, Option.bind_some, Option.map_some]; rfl, rfl⟩
theorem s129 {v r : List Int} {q : Int} (hv6 : v.length = 6) (hr6 : r.length = 6) (hv : okB 1000000000 v) (hr : okB 6000000000 r) (hq : -1000000000 ≤ q ∧ q ≤ 1000000000) {m : Mem} : borrowE O2 129 [.agg (icells v), .int .i64 q, .agg (icells r)] m = some (.agg (icells (subV v q r)), m) :=
 borrowE_of (pures_cons (pureI v) (pures_cons rfl (pures_cons (pureI r) rfl))) ((f129 hv6 hr6 hv hr hq).mono fun y m' h => by rw [h]; simp only [Zz.resV, Zz.resA, resA_icells])
noncomputable def O3 : Env := O2.put 129 (borrowE O2 129)
theorem O3_ok : EnvOk Try.prog O3 := Env.put_ok O2_ok (borrowE_ok O2_ok (callable Try.func129 (by kernel_rfl)))
theorem f139 {a b : Int} (hb : 0 < b) (ha : -1000000000 ≤ a ∧ a ≤ 1000000000) : WF O3 (.func 139 [] []) [.int .i64 a, .int .i64 b] ⟨[], []⟩ fun y m' => y = .int .i64 (a / b) := by
 have htb := tdiv_bd (b := b) (by omega) ha
 have hfl := floor_t (a := a) hb
 have hne : b ≠ 0 := by omega
 have hm1 := Int.tmod_lt_of_pos a hb
 have hm2 := Int.lt_tmod_of_pos a hb
 refine WF.fnE rfl (fn_of Try.func139 cir139) (by show 2 ≤ 16; decide) ?_
 unfold ir139
 simp only [padTo, List.replicate, zNA, zAN]
 repeat' (first | (refine WO.opE (by intro; simp (disch := omega) only [go_sem, hne, if_false]; rfl) (by simp only [pt8, pt0, pt1, pt2, pt3, pt4, pt5, pt6, pt7]; rfl) ?_) | (refine WC.seq ?_) | (refine WC.region ?_) | (refine WO.nil ?_) | (simp only [fl1]) | (refine WC.skip ?_) | (refine WC.ret ?_) | (refine WC.em2 rfl (fun hp => ?_) (fun hp => ?_) <;> try (exfalso; first | omega | contradiction)))
 ·exact ⟨_, rfl, by simp only [oneRes, gt4]; rw [hfl, if_pos (by assumption)]⟩
 ·exact ⟨_, rfl, by simp only [oneRes, gt4]; rw [hfl, if_neg (by assumption)]⟩
theorem s139 {a b : Int} (hb : 0 < b) (ha : -1000000000 ≤ a ∧ a ≤ 1000000000) {m : Mem} : borrowE O3 139 [.int .i64 a, .int .i64 b] m = some (.int .i64 (a / b), m) :=
 borrowE_of rfl ((f139 hb ha).mono fun y m' h => by rw [h]; rfl)
theorem f128 {a b : Nat} (ha : a ≤ 1000000000) (hb : b ≤ 1000000000) : WF O3 (.func 128 [] []) [.int .i64 (a : Nat), .int .i64 (b : Nat)] ⟨[], []⟩ fun y m' => y = .int .i64 (Nat.gcd a b : Nat) := by
 refine WF.fnE rfl (fn_of Try.func128 cir128) (by show 2 ≤ 14; decide) ?_
 unfold ir128
 simp only [padTo, List.replicate, zNA, zAN]
 repeat' (first | (refine WO.opE (by intro; simp (disch := omega) only [go_sem]; rfl) (by simp only [pt4]; rfl) ?_) | (refine WC.seq ?_) | (refine WC.region ?_) | (refine WO.nil ?_) | (refine WC.block ?_))
 refine WC.loopI (fun m s => ∃ T c d, s = ⟨T, [], []⟩ ∧ T.length = 14 ∧ gt T 0 = .int .i64 (c : Nat) ∧ gt T 1 = .int .i64 (d : Nat) ∧ m = d ∧ c ≤ 1000000000 ∧ d ≤ 1000000000 ∧ Nat.gcd c d = Nat.gcd a b) ?_ b _ ⟨_, a, b, rfl, rfl, rfl, rfl, rfl, ha, hb, rfl⟩
 rintro m _ ⟨T, c, d, rfl, hT, g0, g1, hm, hc, hd, hg⟩
 obtain ⟨f, rfl⟩ := ex14 hT
 clear hT
 replace g0 : f 0 = .int .i64 (c : Nat) := g0
 replace g1 : f 1 = .int .i64 (d : Nat) := g1
 simp only [g0, g1]
 by_cases h0 : d = 0
 ·subst h0
  rw [Nat.gcd_zero_right] at hg
  have hz0 : ((0 : Nat) : Int) = 0 := rfl
  rw [hz0] at g1
  simp only [hz0]
  repeat' (first | (refine WO.opE (by intro; simp (disch := omega) only [go_sem]; rfl) (by simp only [pt8, pt4, pt5, pt6, pt7]; rfl) ?_) | (refine WC.seq ?_) | (refine WC.region ?_) | (refine WO.nil ?_) | (simp only [fl1]) | (refine WC.no rfl ?_) | (refine WC.exit ?_) | (refine WC.ret ?_))
  exact ⟨_, rfl, by rw [← hg]; rfl⟩
 ·have hdn : ((d : Nat) : Int) ≠ 0 := by omega
  have hml := Nat.mod_lt c (show 0 < d by omega)
  have ht : ((c : Nat) : Int).tmod ((d : Nat) : Int) = ((c % d : Nat) : Int) := rfl
  repeat' (first | (refine WO.opE (by intro; simp (disch := omega) only [go_sem, hdn, ht, if_false]; rfl) (by simp only [pt8, pt0, pt1, pt2, pt3, pt4, pt5, pt6, pt7]; rfl) ?_) | (refine WC.seq ?_) | (refine WC.region ?_) | (refine WO.nil ?_) | (simp only [fl1, fl4, fl10]) | (refine WC.yes rfl ?_) | (refine WC.skip ?_) | (refine WC.block ?_))
  exact ⟨c % d, by omega, _, d, c % d, rfl, rfl, rfl, rfl, rfl, hd, by omega, (gcd_step c d).trans hg⟩
theorem s128 {a b : Nat} (ha : a ≤ 1000000000) (hb : b ≤ 1000000000) {m : Mem} : borrowE O3 128 [.int .i64 (a : Nat), .int .i64 (b : Nat)] m = some (.int .i64 (Nat.gcd a b : Nat), m) :=
 borrowE_of rfl ((f128 ha hb).mono fun y m' h => by rw [h]; rfl)
noncomputable def O4 : Env := O3.put 128 (borrowE O3 128)
theorem O4_ok : EnvOk Try.prog O4 := Env.put_ok O3_ok (borrowE_ok O3_ok (callable Try.func128 (by kernel_rfl)))
theorem f124 {xr : AV} {h : List (List Int)} {js : List Nat} (hxr : RwL xr h) (hD : DivB h js) (hz : ∀ i, i < h.length → ∀ t, t < js.getD i 0 → (rw_ h i).getD t 0 = 0) (hP : ∀ i, i ≤ h.length → -1000000000 ≤ pprodF (fun t => ent h t (js.getD t 0)) i ∧ pprodF (fun t => ent h t (js.getD t 0)) i ≤ 1000000000) :
  WF O4 (.func 124 [] []) [xr] ⟨[], []⟩ fun y m' => y = .int .i64 (pprodF (fun t => ent h t (js.getD t 0)) h.length) := by
 have hxl := hxr.len
 have hle := hD.le
 refine WF.fnE rfl (fn_of Try.func124 cir124) (by show 1 ≤ 24; decide) ?_
 unfold ir124
 simp only [padTo, List.replicate, zNA, zAN]
 repeat' (first | (refine WO.opE (by intro; simp (disch := omega) only [go_sem]; rfl) (by simp only [pt2, pt3, pt4]; rfl) ?_) | (refine WC.seq ?_) | (refine WC.region ?_) | (refine WO.nil ?_) | (simp only [fl1]) | (refine WC.block ?_))
 refine WC.loopI (fun m s => ∃ T i, s = ⟨T, [], []⟩ ∧ T.length = 24 ∧ gt T 0 = xr ∧ gt T 3 = .int .i64 (pprodF (fun t => ent h t (js.getD t 0)) i) ∧ gt T 4 = .int .i64 (i : Nat) ∧ m + i = h.length) ?_ h.length _ ⟨_, 0, rfl, rfl, rfl, rfl, rfl, by omega⟩
 rintro m _ ⟨T, i, rfl, hT, g0, g3, g4, hm⟩
 obtain ⟨f, rfl⟩ := ex24 hT
 clear hT
 replace g0 : f 0 = xr := g0
 replace g3 : f 3 = .int .i64 (pprodF (fun t => ent h t (js.getD t 0)) i) := g3
 replace g4 : f 4 = .int .i64 (i : Nat) := g4
 simp only [g0, g3, g4]
 by_cases hi : i < h.length
 ·have k6 := hD.six i hi
  have hat := hxr.at hi
  have hcut := cut_row (t := tailr h i) k6
  have hdr := dr_row (t := tailr h i) (r := rw_ h i) (j := js.getD i 0) (by have := hD.lt i hi; omega)
  have hcr : (rw_ h i).map (AV.int .i64) = icells (rw_ h i) := rfl
  rw [hcr] at hat hcut hdr
  have hplt := hD.lt i hi
  have hpos := hD.pos i hi
  have c127 := fun m => s127 (m := m) k6 hplt (hz i hi) (by omega)
  have hb := hP (i + 1) hi
  have hb0 : pprodF (fun t => ent h t (js.getD t 0)) (i + 1) = pprodF (fun t => ent h t (js.getD t 0)) i * (rw_ h i).getD (js.getD i 0) 0 := rfl
  rw [hb0] at hb
  repeat' (first | (refine WO.opE (by intro; simp (disch := omega) only [go_sem]; rfl) (by simp only [pt8, pt0, pt1, pt2, pt4, pt5, pt6]; rfl) ?_) | (refine WO.opE (by intro; exact ev_lenS (by simp only [go_sem]; first | rfl | assumption)) (by simp only [pt7]; rfl) ?_) | (refine WT.spec rfl rfl (fun V => c127 ⟨V, []⟩) (by simp only [pt8, pt2]; rfl) ?_) | (refine WC.seq ?_) | (refine WC.region ?_) | (refine WO.nil ?_) | (simp only [fl1, fl4, fl10]) | (refine WC.drawT ?_) | (refine WT.nil ?_) | (refine WT.free rfl (by intro; simp (disch := omega) only [go_sem, hat, hcut, hdr, Nat.mul_one]; rfl) rfl (by simp only [pt8, pt0, pt1, pt3, pt4, pt5, pt6, pt7]; rfl) ?_) | (refine WT.big rfl rfl (by intro; simp (disch := omega) only [go_sem, hcut, hdr]; rfl) (by simp (disch := omega) only [go_sem, touch]; rfl) (by first | exact .inl rfl | exact .inr (apart_nil _) | exact .inr trivial | (right; apply apart_mk; simp only [apartL, zNA, zCA, List.getElem?_cons_succ, List.getElem?_cons_zero, Tch.free, and_true, true_and]; first | done | omega)) (by simp only [pt8, pt1, pt5]; rfl) ?_) | (refine WC.skip ?_) | (refine WC.block ?_) | (refine WC.em2 rfl (fun hp => ?_) (fun hp => ?_) <;> try (exfalso; first | omega | contradiction)))
  exact ⟨m - 1, by omega, _, i + 1, rfl, rfl, rfl, rfl, rfl, by omega⟩
 ·have hie : i = h.length := by omega
  subst hie
  repeat' (first | (refine WO.opE (by intro; simp (disch := omega) only [go_sem]; rfl) (by simp only [pt8, pt0, pt2, pt5, pt6, pt7]; rfl) ?_) | (refine WO.opE (by intro; exact ev_lenS (by simp only [go_sem]; first | rfl | assumption)) (by simp only [pt7]; rfl) ?_) | (refine WC.seq ?_) | (refine WC.region ?_) | (refine WO.nil ?_) | (simp only [fl1]) | (refine WC.exit ?_) | (refine WC.ret ?_) | (refine WC.em2 rfl (fun hp => ?_) (fun hp => ?_) <;> try (exfalso; first | omega | contradiction)))
  exact ⟨_, rfl, rfl⟩
theorem s124 {xr : AV} {h : List (List Int)} {js : List Nat} (hxr : RwL xr h) (hD : DivB h js) (hz : ∀ i, i < h.length → ∀ t, t < js.getD i 0 → (rw_ h i).getD t 0 = 0) (hP : ∀ i, i ≤ h.length → -1000000000 ≤ pprodF (fun t => ent h t (js.getD t 0)) i ∧ pprodF (fun t => ent h t (js.getD t 0)) i ≤ 1000000000) {m : Mem} :
  borrowE O4 124 [xr] m = some (.int .i64 (pprodF (fun t => ent h t (js.getD t 0)) h.length), m) :=
 borrowE_of (pures_cons hxr.pureA rfl) ((f124 hxr hD hz hP).mono fun y m' h => by rw [h]; rfl)
noncomputable def O5 : Env := O4.put 124 (borrowE O4 124)
theorem O5_ok : EnvOk Try.prog O5 := Env.put_ok O4_ok (borrowE_ok O4_ok (callable Try.func124 (by kernel_rfl)))
noncomputable def O6 : Env := O5.put 139 (borrowE O3 139)
theorem O6_ok : EnvOk Try.prog O6 := Env.put_ok O5_ok (borrowE_ok O3_ok (callable Try.func139 (by kernel_rfl)))
theorem herm_zero {rows : List (List Int)} (hv : VM rows) (h6 : Six rows) : ∀ i, i < (hermF rows).length → ∀ t, t < (fwdF rows).js.getD i 0 → (rw_ (hermF rows) i).getD t 0 = 0 := fun i hi t ht => (herm_tf hv h6).zero i hi t ht
set_option maxRecDepth 100000
set_option maxHeartbeats 8000000
theorem c7_len {r : List Int} {u : AV} (h6 : r.length = 6) : (icells r ++ [u]).length = 7 := by simp [icells_len, h6]
theorem c7_cut0 {r : List Int} {u : AV} (h6 : r.length = 6) : Zz.cut (icells r ++ [u]) 0 6 = some (icells r) := by
 have hl : (icells r).length = 6 := by rw [icells_len, h6]
 unfold Zz.cut
 rw [if_pos (by rw [c7_len h6]; decide), List.drop_zero, List.take_append_of_le_length (by omega), List.take_of_length_le (by omega)]
theorem c7_cut6 {r : List Int} {u : AV} (h6 : r.length = 6) : Zz.cut (icells r ++ [u]) 6 1 = some [u] := by
 have hl : (icells r).length = 6 := by rw [icells_len, h6]
 unfold Zz.cut
 rw [if_pos (by rw [c7_len h6]; decide), ← hl, List.drop_left]
 rfl
theorem c7_cut7 {r : List Int} {u : AV} (h6 : r.length = 6) : Zz.cut (icells r ++ [u]) 0 7 = some (icells r ++ [u]) := by
 unfold Zz.cut
 rw [if_pos (by rw [c7_len h6]; decide), List.drop_zero, List.take_of_length_le (by rw [c7_len h6]; decide)]
theorem c7_at {r : List Int} {u : AV} {j : Nat} (h : j < r.length) : (icells r ++ [u])[j]? = some (.int .i64 (r.getD j 0)) := by
 rw [List.getElem?_append_left (by rw [icells_len]; exact h)]
 exact icells_at h
theorem c7_over0 {r r' : List Int} {u : AV} (h6 : r.length = 6) (h6' : r'.length = 6) : Zz.over (icells r ++ [u]) 0 (icells r') = some (icells r' ++ [u]) := by
 have hl : (icells r).length = 6 := by rw [icells_len, h6]
 have hl' : (icells r').length = 6 := by rw [icells_len, h6']
 unfold Zz.over
 rw [if_pos (by rw [c7_len h6]; omega), hl']
 have e : (icells r ++ [u]).drop (0 + 6) = [u] := by
  rw [Nat.zero_add, ← hl, List.drop_left]
 rw [e]
 rfl
theorem c7_over6 {r : List Int} {u w : AV} (h6 : r.length = 6) : Zz.over (icells r ++ [u]) 6 [w] = some (icells r ++ [w]) := by
 have hl : (icells r).length = 6 := by rw [icells_len, h6]
 unfold Zz.over
 rw [if_pos (by rw [c7_len h6]; simp)]
 have e : (icells r ++ [u]).drop (6 + [w].length) = [] := List.drop_eq_nil_of_le (by rw [c7_len h6]; simp)
 have e2 : (icells r ++ [u]).take 6 = icells r := by rw [← hl, List.take_left]
 rw [e, e2, List.append_nil]
theorem c7_all {r : List Int} {u x0 x1 x2 x3 x4 x5 x6 : AV} (h6 : r.length = 6) : Zz.over [x0, x1, x2, x3, x4, x5, x6] 0 (icells r ++ [u]) = some (icells r ++ [u]) := by
 unfold Zz.over
 rw [if_pos (by rw [c7_len h6]; simp), c7_len h6]
 simp
theorem c7_zero {r : List Int} {u x0 x1 x2 x3 x4 x5 : AV} (h6 : r.length = 6) : Zz.over [x0, x1, x2, x3, x4, x5, u] 0 (icells r) = some (icells r ++ [u]) := by
 have hl : (icells r).length = 6 := by rw [icells_len, h6]
 unfold Zz.over
 rw [if_pos (by rw [hl]; simp), hl]
 simp
theorem resL_7 {H : Hp} {u x : AV} (hu : Zz.resC H u = some x) : ∀ r : List Int, Zz.resL H (icells r ++ [u]) = some (icells r ++ [x])
 | [] => by
  show (match Zz.resC H u, some [] with | some a, some l => some (a :: l) | _, _ => none) = _
  rw [hu]
  rfl
 | y :: r => by
  have ih := resL_7 hu r
  show (match Zz.resC H (.int .i64 y), Zz.resL H (icells r ++ [u]) with | some a, some l => some (a :: l) | _, _ => none) = _
  rw [ih]
  rfl
def z7 : List AV := [.int .i64 0, .int .i64 0, .int .i64 0, .int .i64 0, .int .i64 0, .int .i64 0, .snil]
theorem f119 {l : AV} {rows : List (List Int)} (hl : RwL l rows) (hmax : rows.length < 9223372036854775807) {v : List Int} (h6 : v.length = 6) :
  WF O6 (.func 119 [] []) [l, .agg (icells v)] ⟨[], []⟩ fun y m' => ∃ u q, y = .tuple [.agg (icells (remD rows v) ++ [u]), .int .i64 (errD rows v)] ∧ GS 1 m'.heap u q (icells (quoD rows v)) := by
 obtain ⟨xr, hxr, c28⟩ := x28 hl hmax
 have c28 := fun m => c28 m l (hl.byVal _)
 have s6 : Six rows := fun i hi => hl.six hi
 rw [hermRR_eq s6] at hxr
 have c79 := fun m => s79 (m := m) h6
 have hcv := icells_cut h6
 have hml : (icells v).length = 6 := by rw [icells_len, h6]
 have hz7 : ([.int .i64 0, .int .i64 0, .int .i64 0, .int .i64 0, .int .i64 0, .int .i64 0, .snil] : List AV) = icells zer6 ++ [.snil] := rfl
 have hov7 : Zz.over ([.int .i64 0, .int .i64 0, .int .i64 0, .int .i64 0, .int .i64 0, .int .i64 0, .snil] : List AV) 0 [.int .i64 0, .int .i64 0, .int .i64 0, .int .i64 0, .int .i64 0, .int .i64 0, .snil] = some [.int .i64 0, .int .i64 0, .int .i64 0, .int .i64 0, .int .i64 0, .int .i64 0, .snil] := rfl
 have hcz7 : Zz.cut ([.int .i64 0, .int .i64 0, .int .i64 0, .int .i64 0, .int .i64 0, .int .i64 0, .snil] : List AV) 0 7 = some [.int .i64 0, .int .i64 0, .int .i64 0, .int .i64 0, .int .i64 0, .int .i64 0, .snil] := rfl
 by_cases hA : VM rows ∧ okB 1000000000 v
 ·have eC : errC rows = 0 := if_pos hA.1
  have eh : hermR rows = hermF rows := if_pos hA.1
  rw [eC] at c28
  rw [eh] at hxr
  have hD := herm_divB hA.1 s6
  have hzz := herm_zero hA.1 s6
  rw [decide_eq_true hA.2] at c79
  have hxl := hxr.len
  have hle := hD.le
  have hzo := fun x0 x1 x2 x3 x4 x5 (u : AV) => c7_zero (r := v) (u := u) (x0 := x0) (x1 := x1) (x2 := x2) (x3 := x3) (x4 := x4) (x5 := x5) h6
  have hal := fun x0 x1 x2 x3 x4 x5 x6 (u : AV) => c7_all (r := v) (u := u) (x0 := x0) (x1 := x1) (x2 := x2) (x3 := x3) (x4 := x4) (x5 := x5) (x6 := x6) h6
  refine WF.fnE rfl (fn_of Try.func119 cir119) (by show 2 ≤ 73; decide) ?_
  unfold ir119
  simp only [padTo, List.replicate, zNA, zAN]
  repeat' (first | (refine WO.yes rfl ?_) | (refine WO.opE (by intro; simp (disch := omega) only [go_sem, Zz.look, zCA, zNA, fillP, Option.bind_eq_bind, Nat.reduceAdd, hcv, hml, hzo]; rfl) (by simp only [pt8, pt0, pt1, pt2, pt3, pt4, pt5, pt6, pt7]; rfl) ?_) | (refine WO.opN (by intro; simp (disch := omega) only [go_sem, Zz.look, Option.bind_eq_bind, List.length_append, Nat.reduceAdd, hml, hal, setBlk, List.set_cons_zero, List.set_cons_succ]; rfl) ?_) | (refine WO.specE rfl rfl (c28 _) (by simp only [pt8, pt1]; rfl) ?_) | (refine WO.specE rfl rfl (c79 _) (by simp only [pt8, pt6]; rfl) ?_) | (refine WC.seq ?_) | (refine WC.region ?_) | (refine WO.nil ?_) | (simp only [fl1]) | (refine WC.no rfl ?_) | (refine WC.skip ?_) | (refine WC.block ?_))
  refine WC.loopI (fun m s => ∃ T G u q i, s = ⟨T, G, []⟩ ∧ T.length = 73 ∧ gt T 3 = .pref 0 0 0 ∧ gt T 4 = .pref 1 0 0 ∧ gt T 5 = .int .i64 0 ∧ gt T 6 = .bool true ∧ gt T 7 = xr ∧ gt T 9 = .pref 2 0 0 ∧ gt T 10 = .int .i64 (i : Nat) ∧ m + i = (hermF rows).length ∧ Zz.look G 1 0 = some [.int .i64 0, .int .i64 0, .int .i64 0, .int .i64 0, .int .i64 0, .int .i64 0, .snil] ∧ Zz.look G 2 0 = some (icells (remL (hermF rows) (fwdF rows).js v i) ++ [u]) ∧ GS 1 G u q (icells (quosL (hermF rows) (fwdF rows).js v i)) ∧ 2 < q ∧ okB 1000000000 (remL (hermF rows) (fwdF rows).js v i) ∧ ∀ k, k < i → okB 1000000000 (remL (hermF rows) (fwdF rows).js v (k + 1))) ?_ (hermF rows).length _ ⟨_, _, .snil, 3, 0, rfl, rfl, rfl, rfl, rfl, rfl, rfl, rfl, rfl, by omega, rfl, rfl, GS.nil, by decide, hA.2, fun k hk => by omega⟩
  clear c79 c28 hcv hml
  rintro m _ ⟨T, G, u, q, i, rfl, hT, g3, g4, g5, g6, g7, g9, g10, hm, k1, k2, hg, hq, ho, hos⟩
  obtain ⟨f, rfl⟩ := ex73 hT
  clear hT
  replace g3 : f 3 = .pref 0 0 0 := g3
  replace g4 : f 4 = .pref 1 0 0 := g4
  replace g5 : f 5 = .int .i64 0 := g5
  replace g6 : f 6 = .bool true := g6
  replace g7 : f 7 = xr := g7
  replace g9 : f 9 = .pref 2 0 0 := g9
  replace g10 : f 10 = .int .i64 (i : Nat) := g10
  simp only [g3, g4, g5, g6, g7, g9, g10]
  have l1 := look_lt k1
  have l2 := look_lt k2
  have hr6 := remL_len (h := hermF rows) (js := (fwdF rows).js) h6 i
  have hrl : (icells (remL (hermF rows) (fwdF rows).js v i)).length = 6 := by rw [icells_len, hr6]
  have huc := gs_cells hg
  unfold AV.cells at huc
  by_cases hi : i < (hermF rows).length
  ·have k6 := hD.six i hi
   have hat := hxr.at hi
   have hcut := cut_row (t := tailr (hermF rows) i) k6
   have hplt := hD.lt i hi
   have hdr := dr_row (t := tailr (hermF rows) i) (r := rw_ (hermF rows) i) (j := (fwdF rows).js.getD i 0) (by omega)
   have hcr : (rw_ (hermF rows) i).map (AV.int .i64) = icells (rw_ (hermF rows) i) := rfl
   rw [hcr] at hat hcut hdr
   have hpos := hD.pos i hi
   have hbd := hD.bd i hi
   have c127 := fun m => s127 (m := m) k6 hplt (hzz i hi) (by omega)
   have hfb := ho _ hplt
   have c139 := fun m => s139 (m := m) hpos hfb
   have hq0 : (remL (hermF rows) (fwdF rows).js v i).getD ((fwdF rows).js.getD i 0) 0 / (rw_ (hermF rows) i).getD ((fwdF rows).js.getD i 0) 0 = quoL (hermF rows) (fwdF rows).js v i := rfl
   have hqb := floor_bd hpos hfb
   rw [hq0] at hqb c139
   have c129 := fun m => s129 (m := m) hr6 k6 ho hbd hqb
   have hs0 : subV (remL (hermF rows) (fwdF rows).js v i) (quoL (hermF rows) (fwdF rows).js v i) (rw_ (hermF rows) i) = remL (hermF rows) (fwdF rows).js v (i + 1) := rfl
   rw [hs0] at c129
   have hr6' := remL_len (h := hermF rows) (js := (fwdF rows).js) h6 (i + 1)
   have c79 := fun m => s79 (m := m) hr6'
   have h7a := c7_at (u := u) (r := remL (hermF rows) (fwdF rows).js v i) (j := (fwdF rows).js.getD i 0) (by omega)
   have h70 := c7_cut0 (u := u) hr6
   have h70' := fun w => c7_cut0 (u := w) hr6'
   have h76' := fun w => c7_cut6 (u := w) hr6'
   have h7o := c7_over0 (u := u) hr6 hr6'
   have h7p := fun w w' => c7_over6 (u := w) (w := w') hr6'
   have hb1c : ∀ x, ((G : Hp).set 2 x)[1]? = G[1]? := fun x => List.getElem?_set_ne (by decide)
   have m1 : Zz.look ((G : Hp).set 2 (some ⟨0, icells (remL (hermF rows) (fwdF rows).js v (i + 1)) ++ [u]⟩)) 1 0 = _ := (look_of_get (hb1c _)).trans k1
   have m2 : Zz.look ((G : Hp).set 2 (some ⟨0, icells (remL (hermF rows) (fwdF rows).js v (i + 1)) ++ [u]⟩)) 2 0 = _ := look_set l2
   have hg1 : GS 1 ((G : Hp).set 2 (some ⟨0, icells (remL (hermF rows) (fwdF rows).js v (i + 1)) ++ [u]⟩)) u q (icells (quosL (hermF rows) (fwdF rows).js v i)) := gs_keep hg (.inr (List.getElem?_set_ne (by omega)))
   have hGl : ((G : Hp).set 2 (some ⟨0, icells (remL (hermF rows) (fwdF rows).js v (i + 1)) ++ [u]⟩)).length = G.length := List.length_set
   generalize hG1 : ((G : Hp).set 2 (some ⟨0, icells (remL (hermF rows) (fwdF rows).js v (i + 1)) ++ [u]⟩)) = G1 at *
   obtain ⟨u2, q2, H2, b1, b2, b3, b4, b5⟩ := intPush (L := []) hg1 (by simp [quosL]; omega) (quoL (hermF rows) (fwdF rows).js v i) [some ⟨0, [.int .i64 (quoL (hermF rows) (fwdF rows).js v i)]⟩] (id := G1.length) (lk0 rfl)
   rw [← quosL_succ] at b2
   simp only [List.length_cons, List.length_nil, Nat.zero_add] at b3 b4 b5
   have n1 : Zz.look H2 1 0 = _ := (look_of_get (b5 1 (by omega) (by omega))).trans ((look_left (by omega)).trans m1)
   have n2 : Zz.look H2 2 0 = _ := (look_of_get (b5 2 (by omega) (by omega))).trans ((look_left (by omega)).trans m2)
   have p2 : Zz.look ((H2 : Hp).set 2 (some ⟨0, icells (remL (hermF rows) (fwdF rows).js v (i + 1)) ++ [u2]⟩)) 2 0 = _ := look_set (look_lt n2)
   have p1 : Zz.look ((H2 : Hp).set 2 (some ⟨0, icells (remL (hermF rows) (fwdF rows).js v (i + 1)) ++ [u2]⟩)) 1 0 = _ := (look_of_get (List.getElem?_set_ne (by decide))).trans n1
   have hu2 := gs_cells b2
   unfold AV.cells at hu2
   have hst : ∀ c, setBlk G 2 0 c = (G : Hp).set 2 (some ⟨0, c⟩) := fun _ => rfl
   have hst2 : ∀ c, setBlk H2 2 0 c = (H2 : Hp).set 2 (some ⟨0, c⟩) := fun _ => rfl
   have hrl' : (icells (remL (hermF rows) (fwdF rows).js v (i + 1))).length = 6 := by rw [icells_len, hr6']
   generalize hx : (remL (hermF rows) (fwdF rows).js v i).getD ((fwdF rows).js.getD i 0) 0 = x at *
   by_cases hb : okB 1000000000 (remL (hermF rows) (fwdF rows).js v (i + 1))
   ·rw [decide_eq_true hb] at c79
    repeat' (first | (refine WO.opE (by intro; simp (disch := omega) only [go_sem, fillP, Option.bind_eq_bind, zeros, ov_one0, hat, hcut, h70', m2, p2, List.length_cons, List.length_nil, Nat.zero_add]; rfl) (by simp only [pt8, pt0, pt1, pt2, pt3, pt4, pt5, pt6, pt7]; rfl) ?_) | (refine WO.opN (by intro; simp (disch := omega) only [go_sem, Option.bind_eq_bind, h7p, n2, hu2, List.length_cons, List.length_nil, Nat.zero_add]; rfl) ?_) | (refine WO.opE (by intro; exact ev_lenS (by simp only [go_sem]; first | rfl | assumption)) (by simp only [pt8, pt7]; rfl) ?_) | (refine WO.specE rfl rfl (c127 _) (by simp only [pt8, pt7]; rfl) ?_) | (refine WO.specE rfl rfl (c79 _) (by simp only [pt8, pt4]; rfl) ?_) | (refine WT.spec rfl rfl (fun V => c139 ⟨V, []⟩) (by simp only [pt8, pt2]; rfl) ?_) | (refine WT.spec rfl rfl (fun V => c129 ⟨V, []⟩) (by simp only [pt8, pt2]; rfl) ?_) | (refine WO.opE (by intro; rw [ev_append]; exact b1) (by simp only [pt8, pt0]; rfl) ?_) | (refine WC.seq ?_) | (refine WC.region ?_) | (refine WO.nil ?_) | (simp only [fl1, fl10]) | (refine WC.drawT ?_) | (refine WT.nil ?_) | (refine WT.free rfl (by intro; simp (disch := omega) only [go_sem, hat, hcut, hdr, h7a, h70, k2, Nat.mul_one, Nat.zero_add]; rfl) rfl (by simp only [pt8, pt0, pt1, pt2, pt3, pt4, pt5, pt6, pt7]; rfl) ?_) | (refine WT.big rfl rfl (by intro; simp (disch := omega) only [go_sem, hcut, hdr, h7a, h70, k2]; rfl) (by simp (disch := omega) only [go_sem, touch]; rfl) (by first | exact .inl rfl | exact .inr (apart_nil _) | exact .inr trivial | (right; apply apart_mk; simp only [apartL, zNA, zCA, List.getElem?_cons_succ, List.getElem?_cons_zero, Tch.free, and_true, true_and]; first | done | omega)) (by simp only [pt8, pt1, pt3, pt4]; rfl) ?_) | (refine WT.bigN rfl rfl (by intro; simp (disch := omega) only [go_sem, Option.bind_eq_bind, h7o, k2, hG1, hrl']; rfl) (by simp (disch := omega) only [go_sem, touch]; rfl) (by first | exact .inl rfl | exact .inr (apart_nil _) | exact .inr trivial | (right; apply apart_mk; simp only [apartL, zNA, zCA, List.getElem?_cons_succ, List.getElem?_cons_zero, Tch.free, and_true, true_and]; first | done | omega)) ?_) | (refine WC.no rfl ?_) | (refine WC.skip ?_) | (refine WC.block ?_) | (refine WC.em2 rfl (fun hp => ?_) (fun hp => ?_) <;> try (exfalso; first | omega | contradiction)))
    have hq2 : 2 < q2 := by rcases b3 with rfl | rfl <;> omega
    refine ⟨m - 1, by omega, _, _, u2, q2, i + 1, rfl, rfl, rfl, rfl, rfl, rfl, rfl, rfl, rfl, by omega, p1, p2, gs_keep b2 (.inr (List.getElem?_set_ne (by omega))), hq2, hb, fun k hk => ?_⟩
    by_cases e : k = i
    ·subst e; exact hb
    ·exact hos k (by omega)
   ·rw [decide_eq_false hb] at c79
    have hno : ¬ divOk (hermF rows) (fwdF rows).js v := fun h => hb (h i hi)
    have e1 : remD rows v = zer6 := if_neg fun h => hno h.2
    have e2 : quoD rows v = [] := if_neg fun h => hno h.2
    have e3 : errD rows v = 3 := by rw [errD, if_pos hA, if_neg hno]
    rw [e1, e2, e3]
    have hst3 : ∀ (S : Hp) c, setBlk S 1 0 c = (S : Hp).set 1 (some ⟨0, c⟩) := fun _ _ => rfl
    repeat' (first | (refine WO.opE (by intro; simp (disch := omega) only [go_sem, fillP, Option.bind_eq_bind, zeros, ov_one0, hat, hcut, h70', m2, p2, List.length_cons, List.length_nil, Nat.zero_add]; rfl) (by simp only [pt8, pt0, pt1, pt2, pt3, pt4, pt5, pt6, pt7]; rfl) ?_) | (refine WO.opN (by intro; simp (disch := omega) only [go_sem, Option.bind_eq_bind, Nat.reduceAdd, h7p, n2, hu2, hov7, p1, List.length_cons, List.length_nil, Nat.zero_add]; rfl) ?_) | (refine WO.opE (by intro; exact ev_lenS (by simp only [go_sem]; first | rfl | assumption)) (by simp only [pt8, pt7]; rfl) ?_) | (refine WO.specE rfl rfl (c127 _) (by simp only [pt8, pt7]; rfl) ?_) | (refine WO.specE rfl rfl (c79 _) (by simp only [pt8, pt4]; rfl) ?_) | (refine WT.spec rfl rfl (fun V => c139 ⟨V, []⟩) (by simp only [pt8, pt2]; rfl) ?_) | (refine WT.spec rfl rfl (fun V => c129 ⟨V, []⟩) (by simp only [pt8, pt2]; rfl) ?_) | (refine WO.opE (by intro; rw [ev_append]; exact b1) (by simp only [pt8, pt0]; rfl) ?_) | (refine WC.seq ?_) | (refine WC.region ?_) | (refine WO.nil ?_) | (simp only [fl1, fl2, fl5, fl8]) | (refine WC.drawT ?_) | (refine WT.nil ?_) | (refine WT.free rfl (by intro; simp (disch := omega) only [go_sem, hat, hcut, hdr, h7a, h70, k2, Nat.mul_one, Nat.zero_add]; rfl) rfl (by simp only [pt8, pt0, pt1, pt2, pt3, pt4, pt5, pt6, pt7]; rfl) ?_) | (refine WT.big rfl rfl (by intro; simp (disch := omega) only [go_sem, hcut, hdr, h7a, h70, k2]; rfl) (by simp (disch := omega) only [go_sem, touch]; rfl) (by first | exact .inl rfl | exact .inr (apart_nil _) | exact .inr trivial | (right; apply apart_mk; simp only [apartL, zNA, zCA, List.getElem?_cons_succ, List.getElem?_cons_zero, Tch.free, and_true, true_and]; first | done | omega)) (by simp only [pt8, pt1, pt3, pt4]; rfl) ?_) | (refine WT.bigN rfl rfl (by intro; simp (disch := omega) only [go_sem, Option.bind_eq_bind, h7o, k2, hG1, hrl']; rfl) (by simp (disch := omega) only [go_sem, touch]; rfl) (by first | exact .inl rfl | exact .inr (apart_nil _) | exact .inr trivial | (right; apply apart_mk; simp only [apartL, zNA, zCA, List.getElem?_cons_succ, List.getElem?_cons_zero, Tch.free, and_true, true_and]; first | done | omega)) ?_) | (refine WC.yes rfl ?_) | (refine WC.skip ?_) | (refine WC.ret ?_) | (refine WC.block ?_) | (refine WC.em2 rfl (fun hp => ?_) (fun hp => ?_) <;> try (exfalso; first | omega | contradiction)))
    have r7 : Zz.cut ([.int .i64 0, .int .i64 0, .int .i64 0, .int .i64 0, .int .i64 0, .int .i64 0, .snil] : List AV) 0 7 = some (icells zer6 ++ [.snil]) := rfl
    have r1 : ∀ c, Zz.look (((H2 : Hp).set 2 (some ⟨0, icells (remL (hermF rows) (fwdF rows).js v (i + 1)) ++ [u2]⟩)).set 1 (some ⟨0, c⟩)) 1 0 = some c := fun _ => look_set (look_lt p1)
    exact ⟨_, by simp only [evRes, gt4, gt5, loadCs, r1, r7, if_true, Option.bind_some, Option.map_some]; rfl, .snil, 0, rfl, GS.nil⟩
  ·have hie : i = (hermF rows).length := by omega
   subst hie
   have h77 := c7_cut7 (u := u) hr6
   have hal := fun x0 x1 x2 x3 x4 x5 x6 => c7_all (u := u) (x0 := x0) (x1 := x1) (x2 := x2) (x3 := x3) (x4 := x4) (x5 := x5) (x6 := x6) hr6
   have hst : ∀ c, setBlk G 1 0 c = (G : Hp).set 1 (some ⟨0, c⟩) := fun _ => rfl
   have e1 : remD rows v = remL (hermF rows) (fwdF rows).js v (hermF rows).length := if_pos ⟨hA, hos⟩
   have e2 : quoD rows v = quosL (hermF rows) (fwdF rows).js v (hermF rows).length := if_pos ⟨hA, hos⟩
   have e3 : errD rows v = 0 := by rw [errD, if_pos hA, if_pos (show divOk _ _ _ from hos)]
   rw [e1, e2, e3]
   have r1 : ∀ c, Zz.look ((G : Hp).set 1 (some ⟨0, c⟩)) 1 0 = some c := fun _ => look_set l1
   repeat' (first | (refine WO.opE (by intro; simp (disch := omega) only [go_sem, k2, h77]; rfl) (by simp only [pt8, pt0, pt5, pt6]; rfl) ?_) | (refine WO.opN (by intro; simp (disch := omega) only [go_sem, Option.bind_eq_bind, List.length_append, Nat.reduceAdd, k1, hal, hrl, List.length_cons, List.length_nil]; rfl) ?_) | (refine WO.opE (by intro; exact ev_lenS (by simp only [go_sem]; first | rfl | assumption)) (by simp only [pt8, pt7]; rfl) ?_) | (refine WC.seq ?_) | (refine WC.region ?_) | (refine WO.nil ?_) | (simp only [fl1]) | (refine WC.exit ?_) | (refine WC.ret ?_) | (refine WC.em2 rfl (fun hp => ?_) (fun hp => ?_) <;> try (exfalso; first | omega | contradiction)))
   exact ⟨_, by simp only [evRes, gt4, gt5, loadCs, r1, h77, if_true, Option.bind_some, Option.map_some]; rfl, u, q, rfl, gs_keep hg (.inr (List.getElem?_set_ne (by omega)))⟩
 ·have e1 : remD rows v = zer6 := if_neg fun h => hA h.1
  have e2 : quoD rows v = [] := if_neg fun h => hA h.1
  have e3 : errD rows v = 1 := if_neg hA
  rw [e1, e2, e3]
  have r7 : Zz.cut ([.int .i64 0, .int .i64 0, .int .i64 0, .int .i64 0, .int .i64 0, .int .i64 0, .snil] : List AV) 0 7 = some (icells zer6 ++ [.snil]) := rfl
  by_cases hv : VM rows
  ·rw [show errC rows = 0 from if_pos hv] at c28
   rw [decide_eq_false fun h => hA ⟨hv, h⟩] at c79
   refine WF.fnE rfl (fn_of Try.func119 cir119) (by show 2 ≤ 73; decide) ?_
   unfold ir119
   simp only [padTo, List.replicate, zNA, zAN]
   repeat' (first | (refine WO.yes rfl ?_) | (refine WO.opE (by intro; simp (disch := omega) only [go_sem, Zz.look, zCA, zNA, fillP, hcv]; rfl) (by simp only [pt8, pt0, pt1, pt2, pt3, pt4, pt5, pt6, pt7]; rfl) ?_) | (refine WO.opN (by intro; simp (disch := omega) only [go_sem, Zz.look, Option.bind_eq_bind, Nat.reduceAdd, hov7, setBlk, List.set_cons_zero, List.set_cons_succ]; rfl) ?_) | (refine WO.specE rfl rfl (c28 _) (by simp only [pt8, pt1]; rfl) ?_) | (refine WO.specE rfl rfl (c79 _) (by simp only [pt8, pt6]; rfl) ?_) | (refine WC.seq ?_) | (refine WC.region ?_) | (refine WO.nil ?_) | (simp only [fl1, fl2]) | (refine WC.yes rfl ?_) | (refine WC.ret ?_))
   exact ⟨_, by simp only [evRes, gt4, gt5, Zz.look, List.getElem?_cons_zero, List.getElem?_cons_succ, loadCs, r7, if_true, Option.bind_some, Option.map_some]; rfl, .snil, 0, rfl, GS.nil⟩
  ·rw [show errC rows = 1 from if_neg hv] at c28
   generalize decide (okB 1000000000 v) = b at *
   refine WF.fnE rfl (fn_of Try.func119 cir119) (by show 2 ≤ 73; decide) ?_
   unfold ir119
   simp only [padTo, List.replicate, zNA, zAN]
   repeat' (first | (refine WO.noE rfl (by simp only [pt8, pt0, pt7]; rfl) ?_) | (refine WO.opE (by intro; simp (disch := omega) only [go_sem, Zz.look, zCA, zNA, fillP, hcv]; rfl) (by simp only [pt8, pt0, pt1, pt2, pt3, pt4, pt5, pt6, pt7]; rfl) ?_) | (refine WO.opN (by intro; simp (disch := omega) only [go_sem, Zz.look, Option.bind_eq_bind, Nat.reduceAdd, hov7, setBlk, List.set_cons_zero, List.set_cons_succ]; rfl) ?_) | (refine WO.specE rfl rfl (c28 _) (by simp only [pt8, pt1]; rfl) ?_) | (refine WO.specE rfl rfl (c79 _) (by simp only [pt8, pt6]; rfl) ?_) | (refine WC.seq ?_) | (refine WC.region ?_) | (refine WO.nil ?_) | (simp only [fl1, fl2]) | (refine WC.yes rfl ?_) | (refine WC.ret ?_))
   exact ⟨_, by simp only [evRes, gt4, gt5, Zz.look, List.getElem?_cons_zero, List.getElem?_cons_succ, loadCs, r7, if_true, Option.bind_some, Option.map_some]; rfl, .snil, 0, rfl, GS.nil⟩
theorem s119 {l : AV} {rows : List (List Int)} (hl : RwL l rows) (hmax : rows.length < 9223372036854775807) {v : List Int} (h6 : v.length = 6) :
  ∃ x, IntS x (quoD rows v) ∧ ∀ m, borrowE O6 119 [l, .agg (icells v)] m = some (.tuple [.agg (icells (remD rows v) ++ [x]), .int .i64 (errD rows v)], m) := by
 obtain ⟨n, y, m', h1, u, q, rfl, h2⟩ := (f119 hl hmax h6).ex
 obtain ⟨x, hx, hrx⟩ := GS.ints h2
 rw [GS.resA h2] at hrx
 refine ⟨x, hx, fun m => borrowE_of (pures_cons hl.pureA (pures_cons (pureI v) rfl)) ⟨⟨n, _, m', h1, ?_⟩⟩⟩
 simp only [Zz.resV, Zz.resT, Zz.resA, resL_7 hrx]
 rfl
noncomputable def O7 : Env := O6.put 119 (borrowE O6 119)
theorem O7_ok : EnvOk Try.prog O7 := Env.put_ok O6_ok (borrowE_ok O6_ok (callable Try.func119 (by kernel_rfl)))
set_option maxRecDepth 100000
set_option maxHeartbeats 8000000
theorem c7_get6 {r : List Int} {u : AV} (h6 : r.length = 6) : (icells r ++ [u])[6]? = some u := by
 have hl : (icells r).length = 6 := by rw [icells_len, h6]
 rw [← hl]
 simp
theorem f67 {l : AV} {rows : List (List Int)} (hl : RwL l rows) (hmax : rows.length < 9223372036854775807) {v : List Int} (h6 : v.length = 6) :
  ∃ x, IntS x (if memD rows v then quoD rows v else []) ∧ WF O7 (.func 67 [] []) [l, .agg (icells v)] ⟨[], []⟩ fun y m' => y = .tuple [x, .bool (decide (memD rows v)), .int .i64 (errD rows v)] := by
 obtain ⟨xq, hxq, c119⟩ := s119 hl hmax h6
 have hcv := icells_cut h6
 have hml : (icells v).length = 6 := by rw [icells_len, h6]
 have r6 := remD_len rows h6
 have hrl : (icells (remD rows v)).length = 6 := by rw [icells_len, r6]
 have h70 := fun w => c7_cut0 (u := w) r6
 have h76 := fun w => c7_get6 (u := w) r6
 have hal := fun x0 x1 x2 x3 x4 x5 x6 (w : AV) => c7_all (u := w) (x0 := x0) (x1 := x1) (x2 := x2) (x3 := x3) (x4 := x4) (x5 := x5) (x6 := x6) r6
 have hce := cellsEq_int (r := remD rows v) (r' := zer6) (by rw [r6]; rfl)
 rw [r6] at hce
 have hce' : cellsEq [true, true, true, true, true, true] (icells (remD rows v)) [.int .i64 0, .int .i64 0, .int .i64 0, .int .i64 0, .int .i64 0, .int .i64 0] = some (decide (remD rows v = zer6)) := hce
 have hxc := hxq.cells
 unfold AV.cells at hxc
 by_cases he : errD rows v = 0
 ·have hm : decide (memD rows v) = decide (remD rows v = zer6) := by
   rw [decide_eq_decide]
   exact ⟨fun h => h.2, fun h => ⟨he, h⟩⟩
  by_cases hr : remD rows v = zer6
  ·have hmm : memD rows v := ⟨he, hr⟩
   rw [decide_eq_true hmm, if_pos hmm]
   rw [decide_eq_true hr] at hce'
   rw [he] at c119 ⊢
   refine ⟨xq, hxq, ?_⟩
   refine WF.fnE rfl (fn_of Try.func67 cir67) (by show 2 ≤ 26; decide) ?_
   unfold ir67
   simp only [padTo, List.replicate, zNA, zAN]
   repeat' (first | (refine WO.yes rfl ?_) | (refine WO.opE (by intro; simp (disch := omega) only [go_sem, Zz.look, zCA, zNA, fillP, hcv, h70, h76, hce', List.length_cons, List.length_nil]; rfl) (by simp only [pt8, pt0, pt1, pt2, pt3, pt4, pt5, pt6, pt7]; rfl) ?_) | (refine WO.opN (by intro; simp (disch := omega) only [go_sem, Zz.look, Option.bind_eq_bind, List.length_append, Nat.reduceAdd, hal, hrl, List.length_cons, List.length_nil, setBlk, List.set_cons_zero, List.set_cons_succ]; rfl) ?_) | (refine WO.specE rfl rfl (c119 _) (by simp only [pt8, pt4]; rfl) ?_) | (refine WC.seq ?_) | (refine WC.region ?_) | (refine WO.nil ?_) | (simp only [fl1]) | (refine WC.no rfl ?_) | (refine WC.skip ?_) | (refine WC.ret ?_))
   exact ⟨_, rfl, rfl⟩
  ·have hmm : ¬ memD rows v := fun h => hr h.2
   rw [decide_eq_false hmm, if_neg hmm]
   rw [decide_eq_false hr] at hce'
   rw [he] at c119 ⊢
   refine ⟨.snil, IntS.nil, ?_⟩
   refine WF.fnE rfl (fn_of Try.func67 cir67) (by show 2 ≤ 26; decide) ?_
   unfold ir67
   simp only [padTo, List.replicate, zNA, zAN]
   repeat' (first | (refine WO.yes rfl ?_) | (refine WO.opE (by intro; simp (disch := omega) only [go_sem, Zz.look, zCA, zNA, fillP, hcv, h70, hce', List.length_cons, List.length_nil]; rfl) (by simp only [pt8, pt0, pt1, pt2, pt3, pt4, pt5, pt6, pt7]; rfl) ?_) | (refine WO.opN (by intro; simp (disch := omega) only [go_sem, Zz.look, Option.bind_eq_bind, List.length_append, Nat.reduceAdd, hal, hrl, List.length_cons, List.length_nil, setBlk, List.set_cons_zero, List.set_cons_succ]; rfl) ?_) | (refine WO.specE rfl rfl (c119 _) (by simp only [pt8, pt4]; rfl) ?_) | (refine WC.seq ?_) | (refine WC.region ?_) | (refine WO.nil ?_) | (simp only [fl1, fl2]) | (refine WC.yes rfl ?_) | (refine WC.ret ?_))
   exact ⟨_, rfl, rfl⟩
 ·have hmm : ¬ memD rows v := fun h => he h.1
  rw [decide_eq_false hmm, if_neg hmm]
  refine ⟨.snil, IntS.nil, ?_⟩
  generalize errD rows v = e at *
  refine WF.fnE rfl (fn_of Try.func67 cir67) (by show 2 ≤ 26; decide) ?_
  unfold ir67
  simp only [padTo, List.replicate, zNA, zAN]
  repeat' (first | (refine WO.noE rfl (by simp only [pt8, pt2, pt3, pt4, pt5]; rfl) ?_) | (refine WO.opE (by intro; simp (disch := omega) only [go_sem, Zz.look, zCA, zNA, hcv, List.length_cons, List.length_nil]; rfl) (by simp only [pt8, pt0, pt1, pt2, pt3, pt4, pt5, pt6, pt7]; rfl) ?_) | (refine WO.opN (by intro; simp (disch := omega) only [go_sem, Zz.look, Option.bind_eq_bind, List.length_append, Nat.reduceAdd, hal, hrl, List.length_cons, List.length_nil, setBlk, List.set_cons_zero, List.set_cons_succ]; rfl) ?_) | (refine WO.specE rfl rfl (c119 _) (by simp only [pt8, pt4]; rfl) ?_) | (refine WC.seq ?_) | (refine WC.region ?_) | (refine WO.nil ?_) | (simp only [fl1, fl2]) | (refine WC.yes rfl ?_) | (refine WC.ret ?_) | (refine WO.em2 rfl (by intro hp; simp only [hp]; rfl) (by intro hp; simp only [hp, decide_false]; rfl) (fun hp => ?_) (fun hp => ?_) <;> try (exfalso; first | omega | contradiction)))
  exact ⟨_, rfl, rfl⟩
theorem s67 {l : AV} {rows : List (List Int)} (hl : RwL l rows) (hmax : rows.length < 9223372036854775807) {v : List Int} (h6 : v.length = 6) :
  ∃ x, IntS x (if memD rows v then quoD rows v else []) ∧ ∀ m, borrowE O7 67 [l, .agg (icells v)] m = some (.tuple [x, .bool (decide (memD rows v)), .int .i64 (errD rows v)], m) := by
 obtain ⟨x, hx, h⟩ := f67 hl hmax h6
 refine ⟨x, hx, fun m => borrowE_of (pures_cons hl.pureA (pures_cons (pureI v) rfl)) (h.mono fun y m' h => ?_)⟩
 rw [h]
 refine res3 ?_ rfl rfl
 rcases hx with ⟨rfl, _⟩ | ⟨full, rfl⟩
 ·rfl
 ·show (if _ then _ else _) = _
  rw [if_pos (flat_ints _)]
noncomputable def O8 : Env := O7.put 67 (borrowE O7 67)
theorem O8_ok : EnvOk Try.prog O8 := Env.put_ok O7_ok (borrowE_ok O7_ok (callable Try.func67 (by kernel_rfl)))
theorem f69 {l : AV} {rows : List (List Int)} (hl : RwL l rows) (hmax : rows.length < 9223372036854775807) {v : List Int} (h6 : v.length = 6) :
  WF O7 (.func 69 [] []) [l, .agg (icells v)] ⟨[], []⟩ fun y m' => y = .tuple [.agg (icells (remD rows v)), .int .i64 (errD rows v)] := by
 obtain ⟨xq, hxq, c119⟩ := s119 hl hmax h6
 have hcv := icells_cut h6
 have hml : (icells v).length = 6 := by rw [icells_len, h6]
 have r6 := remD_len rows h6
 have hcr := icells_cut r6
 have hrl : (icells (remD rows v)).length = 6 := by rw [icells_len, r6]
 have h70 := fun w => c7_cut0 (u := w) r6
 have hal := fun x0 x1 x2 x3 x4 x5 x6 (w : AV) => c7_all (u := w) (x0 := x0) (x1 := x1) (x2 := x2) (x3 := x3) (x4 := x4) (x5 := x5) (x6 := x6) r6
 have hov := fun x0 x1 x2 x3 x4 x5 => icells_over6 r6 (x0 := x0) (x1 := x1) (x2 := x2) (x3 := x3) (x4 := x4) (x5 := x5)
 have hxc := hxq.cells
 unfold AV.cells at hxc
 refine WF.fnE rfl (fn_of Try.func69 cir69) (by show 2 ≤ 17; decide) ?_
 unfold ir69
 simp only [padTo, List.replicate, zNA, zAN]
 repeat' (first | (refine WO.opE (by intro; simp (disch := omega) only [go_sem, Zz.look, zCA, zNA, Nat.reduceAdd, hcv, h70, List.length_cons, List.length_nil]; rfl) (by simp only [pt8, pt0, pt1, pt2, pt3, pt4, pt5, pt6, pt7]; rfl) ?_) | (refine WO.opN (by intro; simp (disch := omega) only [go_sem, Zz.look, Option.bind_eq_bind, List.length_append, Nat.reduceAdd, hal, hrl, hov, List.length_cons, List.length_nil, setBlk, List.set_cons_zero, List.set_cons_succ]; rfl) ?_) | (refine WO.specE rfl rfl (c119 _) (by simp only [pt8, pt3]; rfl) ?_) | (refine WC.seq ?_) | (refine WC.region ?_) | (refine WO.nil ?_) | (simp only [fl1]) | (refine WC.ret ?_))
 exact ⟨_, by simp only [evRes, gt4, gt5, loadCs, Zz.look, List.getElem?_cons_zero, List.getElem?_cons_succ, hcr, if_true, Option.bind_some, Option.map_some]; rfl, rfl⟩
theorem s69 {l : AV} {rows : List (List Int)} (hl : RwL l rows) (hmax : rows.length < 9223372036854775807) {v : List Int} (h6 : v.length = 6) {m : Mem} :
  borrowE O7 69 [l, .agg (icells v)] m = some (.tuple [.agg (icells (remD rows v)), .int .i64 (errD rows v)], m) :=
 borrowE_of (pures_cons hl.pureA (pures_cons (pureI v) rfl)) ((f69 hl hmax h6).mono fun y m' h => by
  rw [h]
  simp only [Zz.resV, Zz.resT, Zz.resA, resA_icells]
  rfl)
noncomputable def O9 : Env := O8.put 69 (borrowE O7 69)
theorem O9_ok : EnvOk Try.prog O9 := Env.put_ok O8_ok (borrowE_ok O7_ok (callable Try.func69 (by kernel_rfl)))
set_option maxRecDepth 100000
set_option maxHeartbeats 8000000
theorem f71 {x y : AV} {a b : List (List Int)} (hx : RwL x a) (hy : RwL y b) (ha : a.length < 9223372036854775807) (hb : b.length < 9223372036854775807) : WF O9 (.func 71 [] []) [x, y] ⟨[], []⟩ fun v m' => v = .tuple [.bool (decide (sameS a b)), .int .i64 (errS a b)] := by
 obtain ⟨xa, hxa, c28⟩ := x28 hx ha
 obtain ⟨xb, hxb, d28⟩ := x28 hy hb
 have c28 := fun m => c28 m x (hx.byVal _)
 have d28 := fun m => d28 m y (hy.byVal _)
 rw [hermRR_eq (fun i hi => hx.six hi)] at hxa
 rw [hermRR_eq (fun i hi => hy.six hi)] at hxb
 by_cases hva : VM a
 ·have ea : errC a = 0 := if_pos hva
  rw [ea] at c28
  by_cases hvb : VM b
  ·have eb : errC b = 0 := if_pos hvb
   rw [eb] at d28
   have c29 := fun m => x29 (m := m) hxa hxb (by have := hermR_len a (fun i hi => hx.six hi); omega) (hxa.byVal _) (hxb.byVal _)
   rw [show hermR a = hermF a from if_pos hva, show hermR b = hermF b from if_pos hvb] at c29
   have e1 : errS a b = 0 := if_pos ⟨hva, hvb⟩
   have e2 : decide (sameS a b) = decide (hermF a = hermF b) := decide_eq_decide.2 ⟨fun h => h.2, fun h => ⟨⟨hva, hvb⟩, h⟩⟩
   rw [e1, e2]
   generalize decide (hermF a = hermF b) = q at *
   refine WF.fnE rfl (fn_of Try.func71 cir71) (by show 2 ≤ 29; decide) ?_
   unfold ir71
   simp only [padTo, List.replicate, zNA, zAN]
   repeat' (first | (refine WO.yes rfl ?_) | (refine WO.opE (by intro; simp (disch := omega) only [go_sem]; rfl) (by simp only [pt8, pt0, pt1, pt2, pt3, pt4, pt5, pt6, pt7]; rfl) ?_) | (refine WO.specE rfl rfl (c28 _) (by simp only [pt8, pt4]; rfl) ?_) | (refine WO.specE rfl rfl (d28 _) (by simp only [pt8, pt1]; rfl) ?_) | (refine WO.specE rfl rfl (c29 _) (by simp only [pt8, pt4]; rfl) ?_) | (refine WC.seq ?_) | (refine WC.region ?_) | (refine WO.nil ?_) | (simp only [fl1]) | (refine WC.no rfl ?_) | (refine WC.skip ?_) | (refine WC.ret ?_))
   exact ⟨_, rfl, rfl⟩
  ·have eb : errC b = 1 := if_neg hvb
   rw [eb] at d28
   rw [show errS a b = 1 from if_neg fun h => hvb h.2, decide_eq_false (show ¬ sameS a b from fun h => hvb h.1.2)]
   refine WF.fnE rfl (fn_of Try.func71 cir71) (by show 2 ≤ 29; decide) ?_
   unfold ir71
   simp only [padTo, List.replicate, zNA, zAN]
   repeat' (first | (refine WO.yes rfl ?_) | (refine WO.opE (by intro; simp (disch := omega) only [go_sem]; rfl) (by simp only [pt8, pt0, pt1, pt2, pt3, pt4, pt5, pt6, pt7]; rfl) ?_) | (refine WO.specE rfl rfl (c28 _) (by simp only [pt8, pt4]; rfl) ?_) | (refine WO.specE rfl rfl (d28 _) (by simp only [pt8, pt1]; rfl) ?_) | (refine WC.seq ?_) | (refine WC.region ?_) | (refine WO.nil ?_) | (simp only [fl1, fl2]) | (refine WC.yes rfl ?_) | (refine WC.ret ?_))
   exact ⟨_, rfl, rfl⟩
 ·have ea : errC a = 1 := if_neg hva
  rw [ea] at c28
  rw [show errS a b = 1 from if_neg fun h => hva h.1, decide_eq_false (show ¬ sameS a b from fun h => hva h.1.1)]
  generalize errC b = eb at *
  refine WF.fnE rfl (fn_of Try.func71 cir71) (by show 2 ≤ 29; decide) ?_
  unfold ir71
  simp only [padTo, List.replicate, zNA, zAN]
  repeat' (first | (refine WO.noE rfl (by simp only [pt8, pt0, pt7]; rfl) ?_) | (refine WO.opE (by intro; simp (disch := omega) only [go_sem]; rfl) (by simp only [pt8, pt0, pt1, pt2, pt3, pt4, pt5, pt6, pt7]; rfl) ?_) | (refine WO.specE rfl rfl (c28 _) (by simp only [pt8, pt4]; rfl) ?_) | (refine WO.specE rfl rfl (d28 _) (by simp only [pt8, pt1]; rfl) ?_) | (refine WC.seq ?_) | (refine WC.region ?_) | (refine WO.nil ?_) | (simp only [fl1, fl2]) | (refine WC.yes rfl ?_) | (refine WC.ret ?_))
  exact ⟨_, rfl, rfl⟩
theorem s71 {x y : AV} {a b : List (List Int)} (hx : RwL x a) (hy : RwL y b) (ha : a.length < 9223372036854775807) (hb : b.length < 9223372036854775807) {m : Mem} : borrowE O9 71 [x, y] m = some (.tuple [.bool (decide (sameS a b)), .int .i64 (errS a b)], m) :=
 borrowE_of (pures_cons hx.pureA (pures_cons hy.pureA rfl)) ((f71 hx hy ha hb).mono fun y m' h => by rw [h]; rfl)
noncomputable def O10 : Env := O9.put 71 (borrowE O9 71)
theorem O10_ok : EnvOk Try.prog O10 := Env.put_ok O9_ok (borrowE_ok O9_ok (callable Try.func71 (by kernel_rfl)))
theorem rowPush6 {G : Hp} {u : AV} {q : Nat} {rows : List (List Int)} {r : List Int} (hg : GS 6 G u q (flatR rows)) (h6 : ∀ r ∈ rows, r.length = 6) (hr : r.length = 6) (hl : rows.length ≤ 100) {id : Nat} (hid : Zz.look (G ++ [some ⟨0, icells r⟩]) id 0 = some (icells r)) :
  ∃ u2 q2 H2, appendAV 6 48 ⟨G ++ [some ⟨0, icells r⟩], []⟩ u (.sref id 0 0 6 1 (some 1)) = some (u2, ⟨H2, []⟩) ∧ GS 6 H2 u2 q2 (flatR (rows ++ [r])) := by
 have hfl := flatR_len h6
 obtain ⟨u2, q2, H2, a1, a2, _⟩ := (hg.more [some ⟨0, icells r⟩]).append (L := []) (bytes := 48) (n := 1) (cap := some 1) hid (by rw [icells_len, hr]) Nat.one_pos (by decide) ⟨by rw [hfl]; omega, by rw [hfl]; omega⟩
 exact ⟨u2, q2, H2, a1, by rw [flatR_app]; exact a2⟩
theorem take_row {a : List (List Int)} {i : Nat} (hi : i < a.length) : a.take (i + 1) = a.take i ++ [rw_ a i] := by
 rw [rw_lt hi, List.take_add_one, List.getElem?_eq_getElem hi]
 rfl
theorem f73 {x y : AV} {a b : List (List Int)} (hx : RwL x a) (hy : RwL y b) (ha : a.length < 9223372036854775807) (hb : b.length < 9223372036854775807) : WF O10 (.func 73 [] []) [x, y] ⟨[], []⟩ fun v m' => ∃ xs, v = .tuple [xs, .int .i64 (errM a b)] ∧ RwL xs (sumR a b) := by
 have c26 := fun m => x26 (m := m) hx ha (hx.byVal _)
 have d26 := fun m => x26 (m := m) hy hb (hy.byVal _)
 have a6 := rwl_six hx
 have b6 := rwl_six hy
 have hxl := hx.len
 have hyl := hy.len
 by_cases hva : VM a
 ·rw [decide_eq_true hva] at c26
  by_cases hvb : VM b
  ·rw [decide_eq_true hvb] at d26
   have ha8 := hva.1
   have hb8 := hvb.1
   have ab6 : Six (a ++ b) := six_app (fun i hi => hx.six hi) (fun i hi => hy.six hi)
   have e1 : errM a b = if VM (a ++ b) then 0 else 2 := if_pos ⟨hva, hvb⟩
   have e2 : sumR a b = hermR (a ++ b) := if_pos ⟨hva, hvb⟩
   rw [e1, e2]
   refine WF.fnE rfl (fn_of Try.func73 cir73) (by show 2 ≤ 57; decide) ?_
   unfold ir73
   simp only [padTo, List.replicate, zNA, zAN]
   repeat' (first | (refine WO.yes rfl ?_) | (refine WO.opE (by intro; simp (disch := omega) only [go_sem]; rfl) (by simp only [pt8, pt0, pt1, pt2, pt3, pt4, pt5, pt6, pt7]; rfl) ?_) | (refine WO.specE rfl rfl (c26 _) (by simp only [pt8, pt6]; rfl) ?_) | (refine WO.specE rfl rfl (d26 _) (by simp only [pt8, pt0]; rfl) ?_) | (refine WC.seq ?_) | (refine WC.region ?_) | (refine WO.nil ?_) | (simp only [fl1]) | (refine WC.no rfl ?_) | (refine WC.skip ?_) | (refine WC.block ?_))
   clear c26 d26
   refine WC.mono (Q := fun e s => e = .exit 0 ∧ ∃ T G u q, s = ⟨T, G, []⟩ ∧ T.length = 57 ∧ gt T 0 = x ∧ gt T 1 = y ∧ gt T 8 = u ∧ GS 6 G u q (flatR a)) ?_ ?_
   ·refine WC.loopI (fun m s => ∃ T G u q i, s = ⟨T, G, []⟩ ∧ T.length = 57 ∧ gt T 0 = x ∧ gt T 1 = y ∧ gt T 8 = u ∧ gt T 9 = .int .i64 (i : Nat) ∧ m + i = a.length ∧ GS 6 G u q (flatR (a.take i))) ?_ a.length _ ⟨_, _, .snil, 0, 0, rfl, rfl, rfl, rfl, rfl, rfl, by omega, GS.nil⟩
    rintro m _ ⟨T, G, u, q, i, rfl, hT, g0, g1, g8, g9, hm, hg⟩
    obtain ⟨f, rfl⟩ := ex57 hT
    clear hT
    replace g0 : f 0 = x := g0
    replace g1 : f 1 = y := g1
    replace g8 : f 8 = u := g8
    replace g9 : f 9 = .int .i64 (i : Nat) := g9
    simp only [g0, g1, g8, g9]
    by_cases hi : i < a.length
    ·have k6 := hx.six hi
     have hat := hx.at hi
     have hcut := cut_row (t := tailr a i) k6
     have hcr : (rw_ a i).map (AV.int .i64) = icells (rw_ a i) := rfl
     rw [hcr] at hat hcut
     have hov := fun x0 x1 x2 x3 x4 x5 => icells_over6 k6 (x0 := x0) (x1 := x1) (x2 := x2) (x3 := x3) (x4 := x4) (x5 := x5)
     have hml : (icells (rw_ a i)).length = 6 := by rw [icells_len, k6]
     obtain ⟨u2, q2, H2, b1, b2⟩ := rowPush6 hg (fun r hr => a6 r (List.mem_of_mem_take hr)) k6 (by rw [List.length_take]; omega) (id := G.length) (lk0 rfl)
     rw [← take_row hi] at b2
     repeat' (first | (refine WO.opE (by intro; simp (disch := omega) only [go_sem, fillP, Option.bind_eq_bind, zeros, hat, hcut, hov, hml]; rfl) (by simp only [pt8, pt0, pt1, pt2, pt3, pt4, pt5, pt6, pt7]; rfl) ?_) | (refine WO.opE (by intro; exact ev_lenS (by simp only [go_sem]; first | rfl | assumption)) (by simp only [pt8, pt1]; rfl) ?_) | (refine WO.opE (by intro; rw [ev_append]; exact b1) (by simp only [pt8, pt3]; rfl) ?_) | (refine WC.seq ?_) | (refine WC.region ?_) | (refine WO.nil ?_) | (simp only [fl1, fl10]) | (refine WC.skip ?_) | (refine WC.block ?_) | (refine WC.em2 rfl (fun hp => ?_) (fun hp => ?_) <;> try (exfalso; first | omega | contradiction)))
     exact ⟨m - 1, by omega, _, H2, u2, q2, i + 1, rfl, rfl, rfl, rfl, rfl, rfl, by omega, b2⟩
    ·have hie : i = a.length := by omega
     subst hie
     rw [List.take_length] at hg
     repeat' (first | (refine WO.opE (by intro; simp (disch := omega) only [go_sem]; rfl) (by simp only [pt8, pt0, pt2, pt7]; rfl) ?_) | (refine WO.opE (by intro; exact ev_lenS (by simp only [go_sem]; first | rfl | assumption)) (by simp only [pt8, pt1]; rfl) ?_) | (refine WC.seq ?_) | (refine WC.region ?_) | (refine WO.nil ?_) | (simp only [fl1, fl3, fl9]) | (refine WC.exit ?_) | (refine WC.em2 rfl (fun hp => ?_) (fun hp => ?_) <;> try (exfalso; first | omega | contradiction)))
     exact ⟨by first | trivial | rfl, _, _, _, _, rfl, rfl, rfl, rfl, rfl, hg⟩
   ·rintro _ _ ⟨rfl, T, G, u, q, rfl, hT, g0, g1, g8, hg⟩
    obtain ⟨f, rfl⟩ := ex57 hT
    clear hT
    replace g0 : f 0 = x := g0
    replace g1 : f 1 = y := g1
    replace g8 : f 8 = u := g8
    simp only [g0, g1, g8]
    repeat' (first | (refine WO.opE (by intro; simp (disch := omega) only [go_sem]; rfl) (by simp only [pt8, pt2]; rfl) ?_) | (refine WC.seq ?_) | (refine WC.region ?_) | (refine WO.nil ?_) | (simp only [fl1]) | (refine WC.block ?_))
    refine WC.loopI (fun m s => ∃ T G u q i, s = ⟨T, G, []⟩ ∧ T.length = 57 ∧ gt T 0 = x ∧ gt T 1 = y ∧ gt T 8 = u ∧ gt T 10 = .int .i64 (i : Nat) ∧ m + i = b.length ∧ GS 6 G u q (flatR (a ++ b.take i))) ?_ b.length _ ⟨_, _, u, q, 0, rfl, rfl, rfl, rfl, rfl, rfl, by omega, by rw [List.take_zero, List.append_nil]; exact hg⟩
    clear hg g0 g1 g8 f G u q
    rintro m _ ⟨T, G, u, q, i, rfl, hT, g0, g1, g8, g10, hm, hg⟩
    obtain ⟨f, rfl⟩ := ex57 hT
    clear hT
    replace g0 : f 0 = x := g0
    replace g1 : f 1 = y := g1
    replace g8 : f 8 = u := g8
    replace g10 : f 10 = .int .i64 (i : Nat) := g10
    simp only [g0, g1, g8, g10]
    by_cases hi : i < b.length
    ·have k6 := hy.six hi
     have hat := hy.at hi
     have hcut := cut_row (t := tailr b i) k6
     have hcr : (rw_ b i).map (AV.int .i64) = icells (rw_ b i) := rfl
     rw [hcr] at hat hcut
     have hov := fun x0 x1 x2 x3 x4 x5 => icells_over6 k6 (x0 := x0) (x1 := x1) (x2 := x2) (x3 := x3) (x4 := x4) (x5 := x5)
     have hml : (icells (rw_ b i)).length = 6 := by rw [icells_len, k6]
     obtain ⟨u2, q2, H2, b1, b2⟩ := rowPush6 hg (fun r hr => by
      rcases List.mem_append.1 hr with h | h
      ·exact a6 r h
      ·exact b6 r (List.mem_of_mem_take h)) k6 (by rw [List.length_append, List.length_take]; omega) (id := G.length) (lk0 rfl)
     rw [List.append_assoc, ← take_row hi] at b2
     repeat' (first | (refine WO.opE (by intro; simp (disch := omega) only [go_sem, fillP, Option.bind_eq_bind, zeros, hat, hcut, hov, hml]; rfl) (by simp only [pt8, pt0, pt1, pt2, pt3, pt4, pt5, pt6, pt7]; rfl) ?_) | (refine WO.opE (by intro; exact ev_lenS (by simp only [go_sem]; first | rfl | assumption)) (by simp only [pt8, pt6]; rfl) ?_) | (refine WO.opE (by intro; rw [ev_append]; exact b1) (by simp only [pt8, pt0]; rfl) ?_) | (refine WC.seq ?_) | (refine WC.region ?_) | (refine WO.nil ?_) | (simp only [fl1, fl10]) | (refine WC.skip ?_) | (refine WC.block ?_) | (refine WC.em2 rfl (fun hp => ?_) (fun hp => ?_) <;> try (exfalso; first | omega | contradiction)))
     exact ⟨m - 1, by omega, _, H2, u2, q2, i + 1, rfl, rfl, rfl, rfl, rfl, rfl, by omega, b2⟩
    ·have hie : i = b.length := by omega
     subst hie
     rw [List.take_length] at hg
     obtain ⟨xs, hxs, hrx⟩ := GS.rows hg (by
      intro r hr
      rcases List.mem_append.1 hr with h | h
      ·exact a6 r h
      ·exact b6 r h)
     obtain ⟨xr, hxr, c28⟩ := x28 hxs (by rw [List.length_append]; omega)
     rw [hermRR_eq ab6] at hxr
     have c28 := c28 ⟨G, []⟩ u ((gs_byVal2 hg).trans hrx)
     by_cases hv : VM (a ++ b)
     ·rw [show errC (a ++ b) = 0 from if_pos hv] at c28
      rw [if_pos hv]
      repeat' (first | (refine WO.opE (by intro; simp (disch := omega) only [go_sem]; rfl) (by simp only [pt8, pt0, pt1, pt2, pt3, pt4, pt5, pt6, pt7]; rfl) ?_) | (refine WO.opE (by intro; exact ev_lenS (by simp only [go_sem]; first | rfl | assumption)) (by simp only [pt8, pt6]; rfl) ?_) | (refine WO.specE rfl rfl (c28) (by simp only [pt8, pt3]; rfl) ?_) | (refine WC.seq ?_) | (refine WC.region ?_) | (refine WO.nil ?_) | (simp only [fl1]) | (refine WC.no rfl ?_) | (refine WC.skip ?_) | (refine WC.exit ?_) | (refine WC.ret ?_) | (refine WC.em2 rfl (fun hp => ?_) (fun hp => ?_) <;> try (exfalso; first | omega | contradiction)))
      exact ⟨_, rfl, _, rfl, hxr⟩
     ·rw [show errC (a ++ b) = 1 from if_neg hv] at c28
      rw [if_neg hv]
      rw [show hermR (a ++ b) = [] from if_neg hv] at hxr ⊢
      repeat' (first | (refine WO.opE (by intro; simp (disch := omega) only [go_sem]; rfl) (by simp only [pt8, pt1, pt2, pt3, pt4, pt5, pt6, pt7]; rfl) ?_) | (refine WO.opE (by intro; exact ev_lenS (by simp only [go_sem]; first | rfl | assumption)) (by simp only [pt8, pt6]; rfl) ?_) | (refine WO.specE rfl rfl (c28) (by simp only [pt8, pt3]; rfl) ?_) | (refine WC.seq ?_) | (refine WC.region ?_) | (refine WO.nil ?_) | (simp only [fl1, fl2]) | (refine WC.yes rfl ?_) | (refine WC.exit ?_) | (refine WC.ret ?_) | (refine WC.em2 rfl (fun hp => ?_) (fun hp => ?_) <;> try (exfalso; first | omega | contradiction)))
      exact ⟨_, rfl, _, rfl, rwl_nil⟩
  ·rw [decide_eq_false hvb] at d26
   rw [show errM a b = 1 from if_neg fun h => hvb h.2, show sumR a b = [] from if_neg fun h => hvb h.2]
   refine WF.fnE rfl (fn_of Try.func73 cir73) (by show 2 ≤ 57; decide) ?_
   unfold ir73
   simp only [padTo, List.replicate, zNA, zAN]
   repeat' (first | (refine WO.yes rfl ?_) | (refine WO.opE (by intro; simp (disch := omega) only [go_sem]; rfl) (by simp only [pt8, pt1, pt2, pt3, pt4, pt5, pt6, pt7]; rfl) ?_) | (refine WO.specE rfl rfl (c26 _) (by simp only [pt8, pt6]; rfl) ?_) | (refine WO.specE rfl rfl (d26 _) (by simp only [pt8, pt0]; rfl) ?_) | (refine WC.seq ?_) | (refine WC.region ?_) | (refine WO.nil ?_) | (simp only [fl1, fl2]) | (refine WC.yes rfl ?_) | (refine WC.ret ?_))
   exact ⟨_, rfl, _, rfl, rwl_nil⟩
 ·rw [decide_eq_false hva] at c26
  rw [show errM a b = 1 from if_neg fun h => hva h.1, show sumR a b = [] from if_neg fun h => hva h.1]
  generalize decide (VM b) = bb at *
  cases bb
  all_goals
   refine WF.fnE rfl (fn_of Try.func73 cir73) (by show 2 ≤ 57; decide) ?_
   unfold ir73
   simp only [padTo, List.replicate, zNA, zAN]
   repeat' (first | (refine WO.noE rfl (by simp only [pt8, pt4, pt5]; rfl) ?_) | (refine WO.opE (by intro; simp (disch := omega) only [go_sem]; rfl) (by simp only [pt8, pt1, pt2, pt3, pt4, pt5, pt6, pt7]; rfl) ?_) | (refine WO.specE rfl rfl (c26 _) (by simp only [pt8, pt6]; rfl) ?_) | (refine WO.specE rfl rfl (d26 _) (by simp only [pt8, pt0]; rfl) ?_) | (refine WC.seq ?_) | (refine WC.region ?_) | (refine WO.nil ?_) | (simp only [fl1, fl2]) | (refine WC.yes rfl ?_) | (refine WC.ret ?_))
   exact ⟨_, rfl, _, rfl, rwl_nil⟩
theorem s73 {x y : AV} {a b : List (List Int)} (hx : RwL x a) (hy : RwL y b) (ha : a.length < 9223372036854775807) (hb : b.length < 9223372036854775807) : ∃ xs, RwL xs (sumR a b) ∧ ∀ m, borrowE O10 73 [x, y] m = some (.tuple [xs, .int .i64 (errM a b)], m) := by
 obtain ⟨n, w, m', h1, xs, rfl, hxs⟩ := (f73 hx hy ha hb).ex
 refine ⟨xs, hxs, fun m => borrowE_of (pures_cons hx.pureA (pures_cons hy.pureA rfl)) ⟨⟨n, _, m', h1, ?_⟩⟩⟩
 have e : Zz.resA m'.heap xs = some xs := by
  rcases hxs with ⟨h0, ⟨rfl, _⟩ | ⟨f, rfl⟩⟩
  ·rfl
  ·have := RwL.resC ⟨h0, .inr ⟨f, rfl⟩⟩ m'.heap
   exact this
 exact resV_two e
noncomputable def O11 : Env := O10.put 73 (borrowE O10 73)
theorem O11_ok : EnvOk Try.prog O11 := Env.put_ok O10_ok (borrowE_ok O10_ok (callable Try.func73 (by kernel_rfl)))
theorem f75 {x y : AV} {a b : List (List Int)} (hx : RwL x a) (hy : RwL y b) (ha : a.length < 9223372036854775807) (hb : b.length < 9223372036854775807) : WF O11 (.func 75 [] []) [x, y] ⟨[], []⟩ fun v m' => v = .tuple [.int .i64 (idxV a b), .int .i64 (errX a b)] := by
 obtain ⟨xa, hxa, c28⟩ := x28 hx ha
 obtain ⟨xb, hxb, d28⟩ := x28 hy hb
 have c28 := fun m => c28 m x (hx.byVal _)
 have d28 := fun m => d28 m y (hy.byVal _)
 have h6a : Six a := fun i hi => hx.six hi
 have h6b : Six b := fun i hi => hy.six hi
 rw [hermRR_eq h6a] at hxa
 rw [hermRR_eq h6b] at hxb
 have hxl := hx.len
 by_cases hv : VM a ∧ VM b
 ·have ea : errC a = 0 := if_pos hv.1
  have eb : errC b = 0 := if_pos hv.2
  rw [ea] at c28
  rw [eb] at d28
  rw [show hermR a = hermF a from if_pos hv.1] at hxa
  rw [show hermR b = hermF b from if_pos hv.2] at hxb
  have bdp : ∀ {r : List (List Int)}, VM r → Six r → ∀ i, i ≤ (hermF r).length → -1000000000 ≤ pprodF (fun t => ent (hermF r) t ((fwdF r).js.getD t 0)) i ∧ pprodF (fun t => ent (hermF r) t ((fwdF r).js.getD t 0)) i ≤ 1000000000 := fun {r} hv h6 i hi => by
   obtain ⟨h1, h2, _⟩ := pivP_all hv h6
   have g1 := pprod_pos h1 i hi
   have g2 := pprod_le h1 ((hermF r).length - i) i (by omega)
   have e : pprodF (fun t => ent (hermF r) t ((fwdF r).js.getD t 0)) i = pprodF (pivP r) i := rfl
   rw [e]
   exact ⟨by have := g1.1; omega, Int.le_trans g2 h2⟩
  have c124 := fun m => s124 (m := m) hxa (herm_divB hv.1 h6a) (herm_zero hv.1 h6a) (bdp hv.1 h6a)
  have d124 := fun m => s124 (m := m) hxb (herm_divB hv.2 h6b) (herm_zero hv.2 h6b) (bdp hv.2 h6b)
  rw [show pprodF (fun t => ent (hermF a) t ((fwdF a).js.getD t 0)) (hermF a).length = volF a from rfl] at c124
  rw [show pprodF (fun t => ent (hermF b) t ((fwdF b).js.getD t 0)) (hermF b).length = volF b from rfl] at d124
  have va := volF_bd hv.1 h6a
  have vb := volF_bd hv.2 h6b
  have la := hxa.len
  have lb := hxb.len
  have na := (herm_divB hv.1 h6a).le
  have nb := (herm_divB hv.2 h6b).le
  have eX : errX a b = scanI b a := if_pos hv
  refine WF.fnE rfl (fn_of Try.func75 cir75) (by show 2 ≤ 61; decide) ?_
  unfold ir75
  simp only [padTo, List.replicate, zNA, zAN]
  repeat' (first | (refine WO.yes rfl ?_) | (refine WO.opE (by intro; simp (disch := omega) only [go_sem]; rfl) (by simp only [pt8, pt0, pt1, pt2, pt3, pt4, pt5, pt6, pt7]; rfl) ?_) | (refine WO.specE rfl rfl (c28 _) (by simp only [pt8, pt0]; rfl) ?_) | (refine WO.specE rfl rfl (d28 _) (by simp only [pt8, pt5]; rfl) ?_) | (refine WC.seq ?_) | (refine WC.region ?_) | (refine WO.nil ?_) | (simp only [fl1]) | (refine WC.no rfl ?_) | (refine WC.skip ?_) | (refine WC.block ?_))
  refine WC.loopI (fun m s => ∃ T i, s = ⟨T, [], []⟩ ∧ T.length = 61 ∧ gt T 0 = x ∧ gt T 1 = y ∧ gt T 6 = xa ∧ gt T 8 = xb ∧ gt T 10 = .int .i64 (i : Nat) ∧ m + i = a.length ∧ scanI b a = scanI b (a.drop i)) ?_ a.length _ ⟨_, 0, rfl, rfl, rfl, rfl, rfl, rfl, rfl, by omega, rfl⟩
  rintro m _ ⟨T, i, rfl, hT, g0, g1, g6, g8, g10, hm, hs⟩
  obtain ⟨f, rfl⟩ := ex61 hT
  clear hT
  replace g0 : f 0 = x := g0
  replace g1 : f 1 = y := g1
  replace g6 : f 6 = xa := g6
  replace g8 : f 8 = xb := g8
  replace g10 : f 10 = .int .i64 (i : Nat) := g10
  simp only [g0, g1, g6, g8, g10]
  by_cases hi : i < a.length
  ·have k6 := hx.six hi
   have hat := hx.at hi
   have hcut := cut_row (t := tailr a i) k6
   have hcr : (rw_ a i).map (AV.int .i64) = icells (rw_ a i) := rfl
   rw [hcr] at hat hcut
   obtain ⟨xm, hxm, c67⟩ := s67 (v := rw_ a i) hy hb k6
   have hdr : a.drop i = rw_ a i :: a.drop (i + 1) := by rw [drop_cons hi, rw_lt hi]
   have hstep : scanI b (a.drop i) = if errD b (rw_ a i) = 0 then if memD b (rw_ a i) then scanI b (a.drop (i + 1)) else 4 else errD b (rw_ a i) := by rw [hdr]; rfl
   rw [hstep] at hs
   by_cases he : errD b (rw_ a i) = 0
   ·rw [if_pos he] at hs
    rw [he] at c67
    by_cases hmem : memD b (rw_ a i)
    ·rw [if_pos hmem] at hs
     rw [decide_eq_true hmem] at c67
     repeat' (first | (refine WO.opE (by intro; simp (disch := omega) only [go_sem, hat, hcut]; rfl) (by simp only [pt8, pt0, pt1, pt2, pt3, pt4, pt5, pt6, pt7]; rfl) ?_) | (refine WO.opE (by intro; exact ev_lenS (by simp only [go_sem]; first | rfl | assumption)) (by simp only [pt8, pt0]; rfl) ?_) | (refine WO.specE rfl rfl (c67 _) (by simp only [pt8, pt2]; rfl) ?_) | (refine WC.seq ?_) | (refine WC.region ?_) | (refine WO.nil ?_) | (simp only [fl1, fl10]) | (refine WC.no rfl ?_) | (refine WC.skip ?_) | (refine WC.block ?_) | (refine WC.em2 rfl (fun hp => ?_) (fun hp => ?_) <;> try (exfalso; first | omega | contradiction)))
     exact ⟨m - 1, by omega, _, i + 1, rfl, rfl, rfl, rfl, rfl, rfl, rfl, by omega, hs⟩
    ·rw [if_neg hmem] at hs
     rw [decide_eq_false hmem] at c67
     have e1 : errX a b = 4 := eX.trans hs
     rw [show idxV a b = 0 from if_neg (by rw [e1]; decide), e1]
     repeat' (first | (refine WO.opE (by intro; simp (disch := omega) only [go_sem, hat, hcut]; rfl) (by simp only [pt8, pt0, pt1, pt2, pt3, pt4, pt5, pt6, pt7]; rfl) ?_) | (refine WO.opE (by intro; exact ev_lenS (by simp only [go_sem]; first | rfl | assumption)) (by simp only [pt8, pt0]; rfl) ?_) | (refine WO.specE rfl rfl (c67 _) (by simp only [pt8, pt2]; rfl) ?_) | (refine WC.seq ?_) | (refine WC.region ?_) | (refine WO.nil ?_) | (simp only [fl1, fl2, fl5, fl8]) | (refine WC.yes rfl ?_) | (refine WC.no rfl ?_) | (refine WC.skip ?_) | (refine WC.ret ?_) | (refine WC.block ?_) | (refine WC.em2 rfl (fun hp => ?_) (fun hp => ?_) <;> try (exfalso; first | omega | contradiction)))
     exact ⟨_, rfl, rfl⟩
   ·rw [if_neg he] at hs
    have e1 : errX a b = errD b (rw_ a i) := eX.trans hs
    rw [show idxV a b = 0 from if_neg (by rw [e1]; exact he), e1]
    generalize errD b (rw_ a i) = e at *
    repeat' (first | (refine WO.opE (by intro; simp (disch := omega) only [go_sem, hat, hcut]; rfl) (by simp only [pt8, pt0, pt1, pt3, pt4, pt5, pt6, pt7]; rfl) ?_) | (refine WO.opE (by intro; exact ev_lenS (by simp only [go_sem]; first | rfl | assumption)) (by simp only [pt8, pt0]; rfl) ?_) | (refine WO.specE rfl rfl (c67 _) (by simp only [pt8, pt2]; rfl) ?_) | (refine WC.seq ?_) | (refine WC.region ?_) | (refine WO.nil ?_) | (simp only [fl1, fl2, fl5, fl8]) | (refine WC.skip ?_) | (refine WC.ret ?_) | (refine WC.block ?_) | (refine WC.em2 rfl (fun hp => ?_) (fun hp => ?_) <;> try (exfalso; first | omega | contradiction)))
    exact ⟨_, rfl, rfl⟩
  ·have hie : i = a.length := by omega
   subst hie
   have e1 : errX a b = 0 := by rw [eX, hs, List.drop_length]; rfl
   have e2 : idxV a b = if (hermF a).length < (hermF b).length then 0 else (volF a).tdiv (volF b) := if_pos e1
   rw [e1, e2]
   have htb := tdiv_bd (b := volF b) (M := 1000000000) (by omega) (show -1000000000 ≤ volF a ∧ volF a ≤ 1000000000 by omega)
   have hne : volF b ≠ 0 := by omega
   generalize volF a = A at *
   generalize volF b = B at *
   by_cases hlt : (hermF a).length < (hermF b).length
   ·rw [if_pos hlt]
    repeat' (first | (refine WO.opE (by intro; simp (disch := omega) only [go_sem]; rfl) (by simp only [pt8, pt1, pt3, pt4, pt5, pt6, pt7]; rfl) ?_) | (refine WO.opE (by intro; exact ev_lenS (by simp only [go_sem]; first | rfl | assumption)) (by simp only [pt8, pt0, pt4, pt6]; rfl) ?_) | (refine WC.seq ?_) | (refine WC.region ?_) | (refine WO.nil ?_) | (simp only [fl1, fl2]) | (refine WC.exit ?_) | (refine WC.ret ?_) | (refine WC.em2 rfl (fun hp => ?_) (fun hp => ?_) <;> try (exfalso; first | omega | contradiction)))
    exact ⟨_, rfl, rfl⟩
   ·rw [if_neg hlt]
    repeat' (first | (refine WO.opE (by intro; simp (disch := omega) only [go_sem, hne, if_false]; rfl) (by simp only [pt8, pt0, pt1, pt2, pt3, pt4, pt5, pt6, pt7]; rfl) ?_) | (refine WO.opE (by intro; exact ev_lenS (by simp only [go_sem]; first | rfl | assumption)) (by simp only [pt8, pt0, pt4, pt6]; rfl) ?_) | (refine WO.specE rfl rfl (c124 _) (by simp only [pt8, pt1]; rfl) ?_) | (refine WO.specE rfl rfl (d124 _) (by simp only [pt8, pt3]; rfl) ?_) | (refine WC.seq ?_) | (refine WC.region ?_) | (refine WO.nil ?_) | (simp only [fl1]) | (refine WC.skip ?_) | (refine WC.exit ?_) | (refine WC.ret ?_) | (refine WC.em2 rfl (fun hp => ?_) (fun hp => ?_) <;> try (exfalso; first | omega | contradiction)))
    exact ⟨_, rfl, rfl⟩
 ·have e1 : errX a b = 1 := if_neg hv
  rw [show idxV a b = 0 from if_neg (by rw [e1]; decide), e1]
  by_cases hva : VM a
  ·have ea : errC a = 0 := if_pos hva
   have eb : errC b = 1 := if_neg fun h => hv ⟨hva, h⟩
   rw [ea] at c28
   rw [eb] at d28
   refine WF.fnE rfl (fn_of Try.func75 cir75) (by show 2 ≤ 61; decide) ?_
   unfold ir75
   simp only [padTo, List.replicate, zNA, zAN]
   repeat' (first | (refine WO.yes rfl ?_) | (refine WO.opE (by intro; simp (disch := omega) only [go_sem]; rfl) (by simp only [pt8, pt0, pt1, pt2, pt3, pt4, pt5, pt6, pt7]; rfl) ?_) | (refine WO.specE rfl rfl (c28 _) (by simp only [pt8, pt0]; rfl) ?_) | (refine WO.specE rfl rfl (d28 _) (by simp only [pt8, pt5]; rfl) ?_) | (refine WC.seq ?_) | (refine WC.region ?_) | (refine WO.nil ?_) | (simp only [fl1, fl2]) | (refine WC.yes rfl ?_) | (refine WC.ret ?_))
   exact ⟨_, rfl, rfl⟩
  ·have ea : errC a = 1 := if_neg hva
   rw [ea] at c28
   generalize errC b = eb at *
   refine WF.fnE rfl (fn_of Try.func75 cir75) (by show 2 ≤ 61; decide) ?_
   unfold ir75
   simp only [padTo, List.replicate, zNA, zAN]
   repeat' (first | (refine WO.noE rfl (by simp only [pt8, pt3, pt4]; rfl) ?_) | (refine WO.opE (by intro; simp (disch := omega) only [go_sem]; rfl) (by simp only [pt8, pt0, pt1, pt2, pt3, pt4, pt5, pt6, pt7]; rfl) ?_) | (refine WO.specE rfl rfl (c28 _) (by simp only [pt8, pt0]; rfl) ?_) | (refine WO.specE rfl rfl (d28 _) (by simp only [pt8, pt5]; rfl) ?_) | (refine WC.seq ?_) | (refine WC.region ?_) | (refine WO.nil ?_) | (simp only [fl1, fl2]) | (refine WC.yes rfl ?_) | (refine WC.ret ?_))
   exact ⟨_, rfl, rfl⟩
theorem s75 {x y : AV} {a b : List (List Int)} (hx : RwL x a) (hy : RwL y b) (ha : a.length < 9223372036854775807) (hb : b.length < 9223372036854775807) {m : Mem} : borrowE O11 75 [x, y] m = some (.tuple [.int .i64 (idxV a b), .int .i64 (errX a b)], m) :=
 borrowE_of (pures_cons hx.pureA (pures_cons hy.pureA rfl)) ((f75 hx hy ha hb).mono fun y m' h => by rw [h]; rfl)
noncomputable def O12 : Env := O11.put 75 (borrowE O11 75)
theorem O12_ok : EnvOk Try.prog O12 := Env.put_ok O11_ok (borrowE_ok O11_ok (callable Try.func75 (by kernel_rfl)))
set_option maxRecDepth 100000
set_option maxHeartbeats 8000000
theorem f77 {l : AV} {rows : List (List Int)} (hl : RwL l rows) (hmax : rows.length < 9223372036854775807) {v : List Int} (h6 : v.length = 6) :
  WF O9 (.func 77 [] []) [l, .agg (icells v)] ⟨[], []⟩ fun y m' => y = .tuple [.int .i64 (ordD rows v), .int .i64 (errO rows v)] := by
 obtain ⟨xr, hxr, c28⟩ := x28 hl hmax
 have c28 := fun m => c28 m l (hl.byVal _)
 have s6 : Six rows := fun i hi => hl.six hi
 rw [hermRR_eq s6] at hxr
 have c79 := fun m => s79 (m := m) h6
 have hcv := icells_cut h6
 have hml : (icells v).length = 6 := by rw [icells_len, h6]
 by_cases hA : VM rows ∧ okB 1000000000 v
 ·have eC : errC rows = 0 := if_pos hA.1
  have eh : hermR rows = hermF rows := if_pos hA.1
  rw [eC] at c28
  rw [eh] at hxr
  have hD := herm_divB hA.1 s6
  have hzz := herm_zero hA.1 s6
  obtain ⟨hF, hN⟩ := ordF_bd (v := v) hA.1 s6
  have hP := (pivP_all hA.1 s6)
  have hpv : ∀ i, i < (hermF rows).length → pivP rows i ≤ 1000000000 := fun i hi => by
   have h1 := (pprod_mono _ hP.1 _ (Nat.le_refl _)).2 (i + 1) hi
   have h2 := (pprod_mono _ hP.1 i (by omega)).1
   have h3 : pprodF (pivP rows) (i + 1) = pprodF (pivP rows) i * pivP rows i := rfl
   have h4 := hP.1 i hi
   have h5 := Int.mul_le_mul_of_nonneg_right h2 (show 0 ≤ pivP rows i by omega)
   omega
  rw [decide_eq_true hA.2] at c79
  have hxl := hxr.len
  have hle := hD.le
  have eO : errO rows v = if ordOk (hermF rows) (fwdF rows).js v then 0 else 3 := if_pos hA
  have eN : ordN rows v = pprodF (ordF (hermF rows) (fwdF rows).js v) (hermF rows).length := rfl
  have eD : ordD rows v = if errO rows v = 0 then if ordV (hermF rows) (fwdF rows).js v (hermF rows).length = zer6 then ordN rows v else 0 else 0 := rfl
  rw [eD, eO, eN]
  clear eD eO eN
  have hF2 : ∀ i, i < (hermF rows).length → ordF (hermF rows) (fwdF rows).js v i = ordK1 (pivP rows i) ((ordV (hermF rows) (fwdF rows).js v i).getD ((fwdF rows).js.getD i 0) 0) := fun i hi => rfl
  have hpe : ∀ i, i < (hermF rows).length → (rw_ (hermF rows) i).getD ((fwdF rows).js.getD i 0) 0 = pivP rows i := fun i hi => rfl
  generalize pivP rows = pv at *
  generalize (fwdF rows).js = js at *
  generalize hermF rows = h at *
  refine WF.fnE rfl (fn_of Try.func77 cir77) (by show 2 ≤ 94; decide) ?_
  unfold ir77
  simp only [padTo, List.replicate, zNA, zAN]
  repeat' (first | (refine WO.yes rfl ?_) | (refine WO.opE (by intro; simp (disch := omega) only [go_sem, Zz.look, zNA, hcv]; rfl) (by simp only [pt8, pt0, pt1, pt2, pt3, pt4, pt5, pt6, pt7]; rfl) ?_) | (refine WO.specE rfl rfl (c28 _) (by simp only [pt8, pt3]; rfl) ?_) | (refine WO.specE rfl rfl (c79 _) (by simp only [pt8, pt0]; rfl) ?_) | (refine WC.seq ?_) | (refine WC.region ?_) | (refine WO.nil ?_) | (simp only [fl1]) | (refine WC.no rfl ?_) | (refine WC.skip ?_) | (refine WC.block ?_))
  clear c28 c79 hcv hml
  refine WC.loopI (fun m s => ∃ T i, s = ⟨T, [some ⟨0, icells (ordV h js v i)⟩], []⟩ ∧ T.length = 94 ∧ gt T 3 = .pref 0 0 0 ∧ gt T 6 = .bool true ∧ gt T 7 = xr ∧ gt T 9 = .int .i64 (pprodF (ordF h js v) i) ∧ gt T 10 = .int .i64 (i : Nat) ∧ m + i = h.length ∧ okB 1000000000 (ordV h js v i) ∧ ∀ k, k < i → okB 1000000000 (ordS h js v k) ∧ okB 1000000000 (ordV h js v (k + 1))) ?_ h.length _ ⟨_, 0, rfl, rfl, rfl, rfl, rfl, rfl, rfl, by omega, hA.2, fun k hk => by omega⟩
  rintro m _ ⟨T, i, rfl, hT, g3, g6, g7, g9, g10, hm, hok, hoks⟩
  obtain ⟨f, rfl⟩ := ex94 hT
  clear hT
  replace g3 : f 3 = .pref 0 0 0 := g3
  replace g6 : f 6 = .bool true := g6
  replace g7 : f 7 = xr := g7
  replace g9 : f 9 = .int .i64 (pprodF (ordF h js v) i) := g9
  replace g10 : f 10 = .int .i64 (i : Nat) := g10
  simp only [g3, g6, g7, g9, g10]
  have hu6 := ordV_len (h := h) (js := js) h6 i
  have hcu := icells_cut hu6
  have hul : (icells (ordV h js v i)).length = 6 := by rw [icells_len, hu6]
  by_cases hi : i < h.length
  ·have k6 := hD.six i hi
   have hat := hxr.at hi
   have hcut := cut_row (t := tailr h i) k6
   have hplt := hD.lt i hi
   have hdr := dr_row (t := tailr h i) (r := rw_ h i) (j := js.getD i 0) (by omega)
   have hcr : (rw_ h i).map (AV.int .i64) = icells (rw_ h i) := rfl
   rw [hcr] at hat hcut hdr
   have hpos := hD.pos i hi
   have hpb := hpv i hi
   have c127 := fun m => s127 (m := m) k6 hplt (hzz i hi) (by omega)
   have hia := icells_at (r := ordV h js v i) (j := js.getD i 0) (by omega)
   have hxb := hok _ hplt
   have hbd := hD.bd i hi
   have hFi := hF i hi
   have hFe := hF2 i hi
   have hNi := hN i (by omega)
   have hNi1 := hN (i + 1) (by omega)
   rw [hpe i hi] at hdr hpos
   generalize hx : (ordV h js v i).getD (js.getD i 0) 0 = x at *
   generalize hpp : pv i = p at *
   have hmx : max x (0 - x) = ((x.natAbs : Nat) : Int) := by omega
   have q0 : ∀ c : List AV, Zz.look [some ⟨0, c⟩] 0 0 = some c := fun _ => rfl
   have hmx2 : (if 0 - x > x then 0 - x else x) = ((x.natAbs : Nat) : Int) := by split <;> omega
   have hmm : minmaxAV true [.int .i64 x, .int .i64 (0 - x)] = some (.int .i64 ((x.natAbs : Nat) : Int)) := by
    simp only [go_sem, hmx]
   have hpn : ((p.natAbs : Nat) : Int) = p := by omega
   have c128 := fun m => s128 (m := m) (a := p.natAbs) (b := x.natAbs) (by omega) (by omega)
   have hgp : 0 < Nat.gcd p.natAbs x.natAbs := Nat.gcd_pos_of_pos_left _ (by omega)
   have hk : p.tdiv ((Nat.gcd p.natAbs x.natAbs : Nat) : Int) = ordF h js v i := by rw [hFe]; rfl
   rw [hpn] at c128
   generalize hgg : Nat.gcd p.natAbs x.natAbs = a at *
   have han : ((a : Nat) : Int) ≠ 0 := by omega
   have hb1 : -1000000000 ≤ p.tdiv ((a : Nat) : Int) ∧ p.tdiv ((a : Nat) : Int) ≤ 1000000000 := by rw [hk]; omega
   repeat' (first | (refine WO.opE (by intro; simp (disch := omega) only [go_sem, hat, hcut, hdr, if_false, Nat.mul_one]; rfl) (by simp only [pt8, pt0, pt1, pt2, pt3, pt4, pt5, pt6, pt7]; rfl) ?_) | (refine WO.opE (by intro; exact ev_lenS (by simp only [go_sem]; first | rfl | assumption)) (by simp only [pt8, pt6]; rfl) ?_) | (refine WT.free rfl (by intro; rw [ev_minmax]; exact congrArg (Option.map fun v => (v, _)) hmm) rfl (by simp only [pt8, pt6]; rfl) ?_) | (refine WO.specE rfl rfl (c127 _) (by simp only [pt8, pt6]; rfl) ?_) | (refine WT.spec rfl rfl (fun V => c128 ⟨V, []⟩) (by simp only [pt8, pt7]; rfl) ?_) | (refine WC.seq ?_) | (refine WC.region ?_) | (refine WO.nil ?_) | (simp only [fl1]) | (refine WC.drawT ?_) | (refine WT.nil ?_) | (refine WT.free rfl (by intro; simp (disch := omega) only [go_sem, hia, han, hk, if_false, q0, Nat.mul_one, Nat.zero_add]; rfl) rfl (by simp only [pt8, pt0, pt1, pt2, pt3, pt4, pt5, pt6, pt7]; rfl) ?_) | (refine WT.big rfl rfl (by intro; simp (disch := omega) only [go_sem, hia, if_false, q0]; rfl) (by simp (disch := omega) only [go_sem, touch]; rfl) (by first | exact .inl rfl | exact .inr (apart_nil _) | exact .inr trivial | (right; apply apart_mk; simp only [apartL, zNA, zCA, List.getElem?_cons_succ, List.getElem?_cons_zero, Tch.free, and_true, true_and]; first | done | omega)) (by simp only [pt8, pt1, pt4]; rfl) ?_) | (refine WC.skip ?_) | (refine WC.block ?_) | (refine WC.em2 rfl (fun hp => ?_) (fun hp => ?_) <;> try (exfalso; first | omega | contradiction)))
   refine WC.loopI (fun m s => ∃ T w j, s = ⟨T, [some ⟨0, icells w⟩], []⟩ ∧ T.length = 94 ∧ gt T 3 = .pref 0 0 0 ∧ gt T 6 = .bool true ∧ gt T 7 = xr ∧ gt T 9 = .int .i64 (pprodF (ordF h js v) i) ∧ gt T 10 = .int .i64 (i : Nat) ∧ gt T 11 = .int .i64 (js.getD i 0 : Nat) ∧ gt T 12 = .int .i64 p ∧ gt T 13 = .int .i64 (ordF h js v i) ∧ gt T 14 = .int .i64 (j : Nat) ∧ m + j = 6 ∧ w.length = 6 ∧ (∀ t, t < j → w.getD t 0 = (ordS h js v i).getD t 0) ∧ ∀ t, j ≤ t → w.getD t 0 = (ordV h js v i).getD t 0) ?_ 6 _ ⟨_, ordV h js v i, 0, rfl, rfl, rfl, rfl, rfl, rfl, rfl, rfl, rfl, rfl, rfl, by omega, hu6, fun t ht => by omega, fun t _ => rfl⟩
   clear g3 g6 g7 g9 g10 f
   rintro m3 _ ⟨T, w, j, rfl, hT, g3, g6, g7, g9, g10, g11, g12, g13, g14, hm3, hw6, hw1, hw2⟩
   obtain ⟨f, rfl⟩ := ex94 hT
   clear hT
   replace g3 : f 3 = .pref 0 0 0 := g3
   replace g6 : f 6 = .bool true := g6
   replace g7 : f 7 = xr := g7
   replace g9 : f 9 = .int .i64 (pprodF (ordF h js v) i) := g9
   replace g10 : f 10 = .int .i64 (i : Nat) := g10
   replace g11 : f 11 = .int .i64 (js.getD i 0 : Nat) := g11
   replace g12 : f 12 = .int .i64 p := g12
   replace g13 : f 13 = .int .i64 (ordF h js v i) := g13
   replace g14 : f 14 = .int .i64 (j : Nat) := g14
   simp only [g3, g6, g7, g9, g10, g11, g12, g13, g14]
   have hwl : (icells w).length = 6 := by rw [icells_len, hw6]
   by_cases hj : j < 6
   ·have hja := icells_at (r := w) (j := j) (by omega)
    rw [hw2 j (Nat.le_refl _)] at hja
    have hovw := icells_over (r := w) (j := j) (by omega) ((ordV h js v i).getD j 0 * ordF h js v i)
    have hmb := mul_b2 (hok j hj) (show -1000000000 ≤ ordF h js v i ∧ ordF h js v i ≤ 1000000000 by omega)
    have hsj : (ordS h js v i).getD j 0 = (ordV h js v i).getD j 0 * ordF h js v i := scale_at hj
    repeat' (first | (refine WO.opE (by intro; simp (disch := omega) only [go_sem, Zz.look, hja, Nat.mul_one, Nat.zero_add]; rfl) (by simp only [pt8, pt0, pt1, pt2, pt3, pt4, pt5, pt6, pt7]; rfl) ?_) | (refine WO.opN (by intro; simp (disch := omega) only [go_sem, Zz.look, Option.bind_eq_bind, hovw, Nat.zero_add, setBlk, List.set_cons_zero]; rfl) ?_) | (refine WC.seq ?_) | (refine WC.region ?_) | (refine WO.nil ?_) | (simp only [fl1, fl10]) | (refine WC.skip ?_) | (refine WC.block ?_) | (refine WC.em2 rfl (fun hp => ?_) (fun hp => ?_) <;> try (exfalso; first | omega | contradiction)))
    exact ⟨m3 - 1, by omega, _, w.set j ((ordV h js v i).getD j 0 * ordF h js v i), j + 1, rfl, rfl, rfl, rfl, rfl, rfl, rfl, rfl, rfl, rfl, rfl, by omega, by simpa using hw6, fun t ht => by
     by_cases e : t = j
     ·subst e; rw [getD_set_self (by omega), hsj]
     ·rw [getD_set_ne (by omega)]; exact hw1 t (by omega), fun t ht => by rw [getD_set_ne (by omega)]; exact hw2 t (by omega)⟩
   ·have hje : j = 6 := by omega
    subst hje
    have hwe : w = ordS h js v i := getD_ext (by rw [hw6]; exact (scale_len _ _).symm) fun t ht => hw1 t (by omega)
    subst hwe
    have hcs := icells_cut hw6
    have d79 := fun m => s79 (m := m) hw6
    by_cases hS : okB 1000000000 (ordS h js v i)
    ·rw [decide_eq_true hS] at d79
     have hn6 := ordV_len (h := h) (js := js) h6 (i + 1)
     have hnl : (icells (ordV h js v (i + 1))).length = 6 := by rw [icells_len, hn6]
     have hcn := icells_cut hn6
     have hovn : Zz.over (icells (ordS h js v i)) 0 (icells (ordV h js v (i + 1))) = some (icells (ordV h js v (i + 1))) := by
      unfold Zz.over
      rw [hwl, hnl]
      simp [hwl]
     have hic := icells_at (r := ordS h js v i) (j := js.getD i 0) (by omega)
     have hpne : p ≠ 0 := by omega
     have hqb := tdiv_bd (b := p) (M := 1000000000) hpne (hS _ hplt)
     have hqe : ((ordS h js v i).getD (js.getD i 0) 0).tdiv p = ordQ h js v i := by
      unfold ordQ
      rw [hpe i hi, hpp]
     rw [hqe] at hqb
     have c129 := fun m => s129 (m := m) hw6 k6 hS hbd hqb
     have hs0 : subV (ordS h js v i) (ordQ h js v i) (rw_ h i) = ordV h js v (i + 1) := rfl
     rw [hs0] at c129
     have e79 := fun m => s79 (m := m) hn6
     have hb2 := tdiv_bd (b := p) (M := 1000000000) hpne (hS _ hplt)
     have hne : pprodF (ordF h js v) (i + 1) = pprodF (ordF h js v) i * ordF h js v i := rfl
     by_cases hV : okB 1000000000 (ordV h js v (i + 1))
     ·rw [decide_eq_true hV] at e79
      rw [hne] at hNi1
      generalize hqq : ordQ h js v i = Q at *
      generalize (ordS h js v i).getD (js.getD i 0) 0 = sx at *
      repeat' (first | (refine WO.opE (by intro; simp (disch := omega) only [go_sem, Zz.look, hcs, hcn]; rfl) (by simp only [pt8, pt0, pt1, pt2, pt3, pt4, pt5, pt6, pt7]; rfl) ?_) | (refine WO.specE rfl rfl (d79 _) (by simp only [pt8, pt5]; rfl) ?_) | (refine WO.specE rfl rfl (e79 _) (by simp only [pt8, pt4]; rfl) ?_) | (refine WT.spec rfl rfl (fun V => c129 ⟨V, []⟩) (by simp only [pt8, pt2]; rfl) ?_) | (refine WC.seq ?_) | (refine WC.region ?_) | (refine WO.nil ?_) | (simp only [fl1, fl10]) | (refine WC.drawT ?_) | (refine WT.nil ?_) | (refine WT.free rfl (by intro; simp (disch := omega) only [go_sem, Zz.look, hat, hcut, hcs, hic, hpne, hqe, if_false, Nat.mul_one]; rfl) rfl (by simp only [pt8, pt0, pt1, pt2, pt3, pt4, pt5, pt6, pt7]; rfl) ?_) | (refine WT.big rfl rfl (by intro; simp (disch := omega) only [go_sem, Zz.look, hcut, hcs, hic, if_false]; rfl) (by simp (disch := omega) only [go_sem, touch]; rfl) (by first | exact .inl rfl | exact .inr (apart_nil _) | exact .inr trivial | (right; apply apart_mk; simp only [apartL, zNA, zCA, List.getElem?_cons_succ, List.getElem?_cons_zero, Tch.free, and_true, true_and]; first | done | omega)) (by simp only [pt8, pt0, pt1, pt3]; rfl) ?_) | (refine WT.bigN rfl rfl (by intro; simp (disch := omega) only [go_sem, Zz.look, Option.bind_eq_bind, hnl, hovn, setBlk, List.set_cons_zero]; rfl) (by simp (disch := omega) only [go_sem, touch]; rfl) (by first | exact .inl rfl | exact .inr (apart_nil _) | exact .inr trivial | (right; apply apart_mk; simp only [apartL, zNA, zCA, List.getElem?_cons_succ, List.getElem?_cons_zero, Tch.free, and_true, true_and]; first | done | omega)) ?_) | (refine WC.no rfl ?_) | (refine WC.skip ?_) | (refine WC.exit ?_))
      exact ⟨m - 1, by omega, _, i + 1, rfl, rfl, rfl, rfl, rfl, rfl, rfl, by omega, hV, fun k hk => by
       by_cases e : k = i
       ·subst e; exact ⟨hS, hV⟩
       ·exact hoks k (by omega)⟩
     ·rw [decide_eq_false hV] at e79
      have hno : ¬ ordOk h js v := fun hh => hV (hh i hi).2
      rw [if_neg hno, if_neg (show ¬ (3 : Int) = 0 by decide)]
      generalize hqq : ordQ h js v i = Q at *
      generalize (ordS h js v i).getD (js.getD i 0) 0 = sx at *
      repeat' (first | (refine WO.opE (by intro; simp (disch := omega) only [go_sem, Zz.look, hcs, hcn]; rfl) (by simp only [pt8, pt1, pt2, pt3, pt4, pt5, pt6, pt7]; rfl) ?_) | (refine WO.specE rfl rfl (d79 _) (by simp only [pt8, pt5]; rfl) ?_) | (refine WO.specE rfl rfl (e79 _) (by simp only [pt8, pt4]; rfl) ?_) | (refine WT.spec rfl rfl (fun V => c129 ⟨V, []⟩) (by simp only [pt8, pt2]; rfl) ?_) | (refine WC.seq ?_) | (refine WC.region ?_) | (refine WO.nil ?_) | (simp only [fl1, fl2, fl5, fl8]) | (refine WC.drawT ?_) | (refine WT.nil ?_) | (refine WT.free rfl (by intro; simp (disch := omega) only [go_sem, Zz.look, hat, hcut, hcs, hic, hpne, hqe, if_false, Nat.mul_one]; rfl) rfl (by simp only [pt8, pt0, pt1, pt2, pt3, pt4, pt5, pt6, pt7]; rfl) ?_) | (refine WT.big rfl rfl (by intro; simp (disch := omega) only [go_sem, Zz.look, hcut, hcs, hic, if_false]; rfl) (by simp (disch := omega) only [go_sem, touch]; rfl) (by first | exact .inl rfl | exact .inr (apart_nil _) | exact .inr trivial | (right; apply apart_mk; simp only [apartL, zNA, zCA, List.getElem?_cons_succ, List.getElem?_cons_zero, Tch.free, and_true, true_and]; first | done | omega)) (by simp only [pt8, pt0, pt1, pt3]; rfl) ?_) | (refine WT.bigN rfl rfl (by intro; simp (disch := omega) only [go_sem, Zz.look, Option.bind_eq_bind, hnl, hovn, setBlk, List.set_cons_zero]; rfl) (by simp (disch := omega) only [go_sem, touch]; rfl) (by first | exact .inl rfl | exact .inr (apart_nil _) | exact .inr trivial | (right; apply apart_mk; simp only [apartL, zNA, zCA, List.getElem?_cons_succ, List.getElem?_cons_zero, Tch.free, and_true, true_and]; first | done | omega)) ?_) | (refine WC.yes rfl ?_) | (refine WC.no rfl ?_) | (refine WC.skip ?_) | (refine WC.exit ?_) | (refine WC.ret ?_))
      exact ⟨_, rfl, rfl⟩
    ·rw [decide_eq_false hS] at d79
     have hno : ¬ ordOk h js v := fun hh => hS (hh i hi).1
     rw [if_neg hno, if_neg (show ¬ (3 : Int) = 0 by decide)]
     repeat' (first | (refine WO.opE (by intro; simp (disch := omega) only [go_sem, Zz.look, hcs]; rfl) (by simp only [pt8, pt1, pt2, pt4, pt5, pt6, pt7]; rfl) ?_) | (refine WO.specE rfl rfl (d79 _) (by simp only [pt8, pt5]; rfl) ?_) | (refine WC.seq ?_) | (refine WC.region ?_) | (refine WO.nil ?_) | (simp only [fl1, fl2, fl5, fl8]) | (refine WC.yes rfl ?_) | (refine WC.no rfl ?_) | (refine WC.exit ?_) | (refine WC.ret ?_))
     exact ⟨_, rfl, rfl⟩
  ·have hie : i = h.length := by omega
   have hall : ordOk h js v := fun k hk => hoks k (by omega)
   rw [if_pos hall, if_pos rfl, ← hie]
   have hce := cellsEq_int (r := ordV h js v i) (r' := zer6) (by rw [hu6]; rfl)
   rw [hu6] at hce
   have hce' : cellsEq [true, true, true, true, true, true] (icells (ordV h js v i)) [.int .i64 0, .int .i64 0, .int .i64 0, .int .i64 0, .int .i64 0, .int .i64 0] = some (decide (ordV h js v i = zer6)) := hce
   by_cases hz : ordV h js v i = zer6
   ·rw [decide_eq_true hz] at hce'
    rw [if_pos hz]
    repeat' (first | (refine WO.opE (by intro; simp (disch := omega) only [go_sem, Zz.look, fillP, hcu, hce']; rfl) (by simp only [pt8, pt2, pt3, pt4, pt5, pt7]; rfl) ?_) | (refine WO.opE (by intro; exact ev_lenS (by simp only [go_sem]; first | rfl | assumption)) (by simp only [pt8, pt6]; rfl) ?_) | (refine WC.seq ?_) | (refine WC.region ?_) | (refine WO.nil ?_) | (simp only [fl1]) | (refine WC.no rfl ?_) | (refine WC.skip ?_) | (refine WC.exit ?_) | (refine WC.ret ?_) | (refine WC.em2 rfl (fun hp => ?_) (fun hp => ?_) <;> try (exfalso; first | omega | contradiction)))
    exact ⟨_, rfl, rfl⟩
   ·rw [decide_eq_false hz] at hce'
    rw [if_neg hz]
    repeat' (first | (refine WO.opE (by intro; simp (disch := omega) only [go_sem, Zz.look, fillP, hcu, hce']; rfl) (by simp only [pt8, pt2, pt3, pt4, pt5, pt7]; rfl) ?_) | (refine WO.opE (by intro; exact ev_lenS (by simp only [go_sem]; first | rfl | assumption)) (by simp only [pt8, pt6]; rfl) ?_) | (refine WC.seq ?_) | (refine WC.region ?_) | (refine WO.nil ?_) | (simp only [fl1, fl2]) | (refine WC.yes rfl ?_) | (refine WC.exit ?_) | (refine WC.ret ?_) | (refine WC.em2 rfl (fun hp => ?_) (fun hp => ?_) <;> try (exfalso; first | omega | contradiction)))
    exact ⟨_, rfl, rfl⟩
 ·have eO : errO rows v = 1 := if_neg hA
  have eD : ordD rows v = 0 := if_neg (by rw [eO]; decide)
  rw [eO, eD]
  by_cases hv : VM rows
  ·rw [show errC rows = 0 from if_pos hv] at c28
   rw [decide_eq_false fun h => hA ⟨hv, h⟩] at c79
   refine WF.fnE rfl (fn_of Try.func77 cir77) (by show 2 ≤ 94; decide) ?_
   unfold ir77
   simp only [padTo, List.replicate, zNA, zAN]
   repeat' (first | (refine WO.yes rfl ?_) | (refine WO.opE (by intro; simp (disch := omega) only [go_sem, Zz.look, hcv]; rfl) (by simp only [pt8, pt0, pt1, pt2, pt3, pt4, pt5, pt6, pt7]; rfl) ?_) | (refine WO.specE rfl rfl (c28 _) (by simp only [pt8, pt3]; rfl) ?_) | (refine WO.specE rfl rfl (c79 _) (by simp only [pt8, pt0]; rfl) ?_) | (refine WC.seq ?_) | (refine WC.region ?_) | (refine WO.nil ?_) | (simp only [fl1, fl2]) | (refine WC.yes rfl ?_) | (refine WC.ret ?_))
   exact ⟨_, rfl, rfl⟩
  ·rw [show errC rows = 1 from if_neg hv] at c28
   generalize decide (okB 1000000000 v) = b at *
   refine WF.fnE rfl (fn_of Try.func77 cir77) (by show 2 ≤ 94; decide) ?_
   unfold ir77
   simp only [padTo, List.replicate, zNA, zAN]
   repeat' (first | (refine WO.noE rfl (by simp only [pt8, pt1, pt2]; rfl) ?_) | (refine WO.opE (by intro; simp (disch := omega) only [go_sem, Zz.look, hcv]; rfl) (by simp only [pt8, pt0, pt1, pt2, pt3, pt4, pt5, pt6, pt7]; rfl) ?_) | (refine WO.specE rfl rfl (c28 _) (by simp only [pt8, pt3]; rfl) ?_) | (refine WO.specE rfl rfl (c79 _) (by simp only [pt8, pt0]; rfl) ?_) | (refine WC.seq ?_) | (refine WC.region ?_) | (refine WO.nil ?_) | (simp only [fl1, fl2]) | (refine WC.yes rfl ?_) | (refine WC.ret ?_))
   exact ⟨_, rfl, rfl⟩
theorem s77 {l : AV} {rows : List (List Int)} (hl : RwL l rows) (hmax : rows.length < 9223372036854775807) {v : List Int} (h6 : v.length = 6) {m : Mem} : borrowE O9 77 [l, .agg (icells v)] m = some (.tuple [.int .i64 (ordD rows v), .int .i64 (errO rows v)], m) :=
 borrowE_of (pures_cons hl.pureA (pures_cons (pureI v) rfl)) ((f77 hl hmax h6).mono fun y m' h => by rw [h]; rfl)
end Go.Proofs.Ytnilimjkibimcaa

