import Derived.Test.YtnilimjkibimcaaTa
import Derived.Test.YtnilimjkibimcaaIrW
import Derived.Test.YtnilimjkibimcaaPQ
import Derived.Test.YtnilimjkibimcaaQB
import Derived.Test.YtnilimjkibimcaaAbsI
import Derived.Test.YtnilimjkibimcaaPo
import Derived.Test.YtnilimjkibimcaaTT

set_option linter.unusedSimpArgs false
set_option linter.unusedVariables false

namespace Go.Proofs.Ytnilimjkibimcaa
open Go.Zz
set_option maxRecDepth 100000
set_option maxHeartbeats 8000000
noncomputable def M1 : Env := E21.put 27 (borrowX E16 27)
theorem M1_ok : EnvOk Try.prog M1 := Env.put_ok E21_ok (borrowX_ok E16_ok (callable Try.func27 (by kernel_rfl)))
theorem f125 {r : List Int} (h6 : r.length = 6) : WF M1 (.func 125 [] []) [.agg (icells r)] ⟨[], []⟩ fun y m' => y = .bool (decide (okB 1000000000 r)) := by
 have hml : (icells r).length = 6 := by rw [icells_len, h6]
 have hcut := icells_cut h6
 refine WF.fnE rfl (fn_of Try.func125 cir125) (by show 1 ≤ 16; decide) ?_
 unfold ir125
 simp only [padTo, List.replicate, zNA, zAN]
 repeat' (first | (refine WO.opE (by intro; simp (disch := omega) only [go_sem, Zz.look, hcut]; rfl) (by simp only [pt1, pt2, pt5, pt6]; rfl) ?_) | (refine WC.seq ?_) | (refine WC.region ?_) | (refine WO.nil ?_) | (simp only [fl1]) | (refine WC.block ?_))
 refine WC.loopI (fun m s => ∃ T j, s = ⟨T, [some ⟨0, icells r⟩], []⟩ ∧ T.length = 16 ∧ gt T 5 = .agg (icells r) ∧ gt T 6 = .int .i64 (j : Nat) ∧ m + j = 6 ∧ ∀ t, t < j → -1000000000 ≤ r.getD t 0 ∧ r.getD t 0 ≤ 1000000000) ?_ 6 _ ⟨_, 0, rfl, rfl, rfl, rfl, by omega, fun t ht => by omega⟩
 rintro m _ ⟨T, j, rfl, hT, g5, g6, hm, hz⟩
 obtain ⟨f, rfl⟩ := ex16 hT
 clear hT
 replace g5 : f 5 = .agg (icells r) := g5
 replace g6 : f 6 = .int .i64 (j : Nat) := g6
 simp only [g5, g6]
 by_cases hj : j < 6
 ·have hia := icells_at (r := r) (j := j) (by omega)
  generalize hx : r.getD j 0 = x at *
  by_cases hxb : -1000000000 ≤ x ∧ x ≤ 1000000000
  ·have hxb1 := hxb
   repeat' (first | (refine WO.yes rfl ?_) | (refine WO.opE (by intro; simp (disch := omega) only [go_sem, Int.reduceNeg, Int.reduceAdd, hia, Nat.mul_one]; rfl) (by simp only [pt8, pt0, pt1, pt2, pt3, pt4, pt5, pt6, pt7]; rfl) ?_) | (refine WC.seq ?_) | (refine WC.region ?_) | (refine WO.nil ?_) | (simp only [fl1, fl10]) | (refine WC.skip ?_) | (refine WC.block ?_) | (refine WO.em2 rfl (by intro hp; simp only [hp, decide_true]; rfl) (by intro hp; simp only [hp, decide_false]; rfl) (fun hp => ?_) (fun hp => ?_) <;> try (exfalso; first | omega | contradiction)) | (refine WC.em2 rfl (fun hp => ?_) (fun hp => ?_) <;> try (exfalso; first | omega | contradiction)))
   exact ⟨m - 1, by omega, _, j + 1, rfl, rfl, rfl, rfl, by omega, fun t ht => by
    by_cases e : t = j
    ·subst e; rw [hx]; exact hxb
    ·exact hz t (by omega)⟩
  ·have hxb1 := hxb
   have hd : decide (okB 1000000000 r) = false := decide_eq_false fun h => hxb (by have := h j hj; rw [hx] at this; exact this)
   repeat' (first | (refine WO.yes rfl ?_) | (refine WO.noE rfl (by simp only [pt8, pt4, pt5]; rfl) ?_) | (refine WO.opE (by intro; simp (disch := omega) only [go_sem, Int.reduceNeg, Int.reduceAdd, hia, Nat.mul_one]; rfl) (by simp only [pt8, pt0, pt1, pt2, pt3, pt4, pt5, pt6, pt7]; rfl) ?_) | (refine WC.seq ?_) | (refine WC.region ?_) | (refine WO.nil ?_) | (simp only [fl1, fl2, fl5, fl8]) | (refine WC.yes rfl ?_) | (refine WC.skip ?_) | (refine WC.ret ?_) | (refine WC.block ?_) | (refine WO.em2 rfl (by intro hp; simp only [hp, decide_true]; rfl) (by intro hp; simp only [hp, decide_false]; rfl) (fun hp => ?_) (fun hp => ?_) <;> try (exfalso; first | omega | contradiction)) | (refine WC.em2 rfl (fun hp => ?_) (fun hp => ?_) <;> try (exfalso; first | omega | contradiction)))
   all_goals exact ⟨_, rfl, by rw [hd]; rfl⟩
 ·have hje : j = 6 := by omega
  subst hje
  have hd : decide (okB 1000000000 r) = true := decide_eq_true hz
  repeat' (first | (refine WO.opE (by intro; simp (disch := omega) only [go_sem]; rfl) (by simp only [pt2, pt7]; rfl) ?_) | (refine WC.seq ?_) | (refine WC.region ?_) | (refine WO.nil ?_) | (simp only [fl1]) | (refine WC.no rfl ?_) | (refine WC.exit ?_) | (refine WC.ret ?_))
  exact ⟨_, rfl, by rw [hd]; rfl⟩
theorem s125 {r : List Int} (h6 : r.length = 6) {m : Mem} : borrowE M1 125 [.agg (icells r)] m = some (.bool (decide (okB 1000000000 r)), m) :=
 borrowE_of (pures_cons (pureI r) rfl) ((f125 h6).mono fun y m' h => by rw [h]; rfl)
noncomputable def M2 : Env := M1.put 125 (borrowE M1 125)
theorem M2_ok : EnvOk Try.prog M2 := Env.put_ok M1_ok (borrowE_ok M1_ok (callable Try.func125 (by kernel_rfl)))
def subV (v : List Int) (q : Int) (r : List Int) : List Int := (List.range 6).map fun j => v.getD j 0 - q * r.getD j 0
theorem sub_at {v r : List Int} {q : Int} {t : Nat} (h : t < 6) : (subV v q r).getD t 0 = v.getD t 0 - q * r.getD t 0 := by
 unfold subV
 simp [List.getD_eq_getElem?_getD, h]
theorem sub_len (v : List Int) (q : Int) (r : List Int) : (subV v q r).length = 6 := by simp [subV]
theorem mul_b2 {a b : Int} {A B : Int} (ha : -A ≤ a ∧ a ≤ A) (hb : -B ≤ b ∧ b ≤ B) : -(A * B) ≤ a * b ∧ a * b ≤ A * B := by
 have h1 := Int.mul_nonneg (show 0 ≤ A - a by omega) (show 0 ≤ B - b by omega)
 have h2 := Int.mul_nonneg (show 0 ≤ A + a by omega) (show 0 ≤ B + b by omega)
 have h3 := Int.mul_nonneg (show 0 ≤ A - a by omega) (show 0 ≤ B + b by omega)
 have h4 := Int.mul_nonneg (show 0 ≤ A + a by omega) (show 0 ≤ B - b by omega)
 constructor <;> grind
theorem f126 {v r : List Int} {q : Int} (hv6 : v.length = 6) (hr6 : r.length = 6) (hv : okB 1000000000 v) (hr : okB 6000000000 r) (hq : -1000000000 ≤ q ∧ q ≤ 1000000000) : WF M2 (.func 126 [] []) [.agg (icells v), .int .i64 q, .agg (icells r)] ⟨[], []⟩ fun y m' => y = .agg (icells (subV v q r)) := by
 have hmv : (icells v).length = 6 := by rw [icells_len, hv6]
 have hmr : (icells r).length = 6 := by rw [icells_len, hr6]
 have hcr := icells_cut hr6
 refine WF.fnE rfl (fn_of Try.func126 cir126) (by show 3 ≤ 24; decide) ?_
 unfold ir126
 simp only [padTo, List.replicate, zNA, zAN]
 repeat' (first | (refine WO.opE (by intro; simp (disch := omega) only [go_sem, Zz.look, zCA, zNA, Nat.reduceAdd, hcr]; rfl) (by simp only [pt8, pt1, pt2, pt3, pt5, pt6]; rfl) ?_) | (refine WC.seq ?_) | (refine WC.region ?_) | (refine WO.nil ?_) | (simp only [fl1]) | (refine WC.block ?_))
 refine WC.loopI (fun m s => ∃ T j w, s = ⟨T, [some ⟨0, icells w⟩, some ⟨0, icells r⟩, some ⟨0, icells zer6⟩], []⟩ ∧ T.length = 24 ∧ gt T 1 = .int .i64 q ∧ gt T 3 = .pref 0 0 0 ∧ gt T 6 = .pref 2 0 0 ∧ gt T 9 = .agg (icells r) ∧ gt T 10 = .int .i64 (j : Nat) ∧ m + j = 6 ∧ w.length = 6 ∧ (∀ t, t < j → w.getD t 0 = v.getD t 0 - q * r.getD t 0) ∧ ∀ t, j ≤ t → w.getD t 0 = v.getD t 0) ?_ 6 _ ⟨_, 0, v, rfl, rfl, rfl, rfl, rfl, rfl, rfl, by omega, hv6, fun t ht => by omega, fun t _ => rfl⟩
 rintro m _ ⟨T, j, w, rfl, hT, g1, g3, g6, g9, g10, hm, hw6, hw1, hw2⟩
 obtain ⟨f, rfl⟩ := ex24 hT
 clear hT
 replace g1 : f 1 = .int .i64 q := g1
 replace g3 : f 3 = .pref 0 0 0 := g3
 replace g6 : f 6 = .pref 2 0 0 := g6
 replace g9 : f 9 = .agg (icells r) := g9
 replace g10 : f 10 = .int .i64 (j : Nat) := g10
 simp only [g1, g3, g6, g9, g10]
 by_cases hj : j < 6
 ·have hia := icells_at (r := w) (j := j) (by omega)
  rw [hw2 j (Nat.le_refl _)] at hia
  have hib := icells_at (r := r) (j := j) (by omega)
  have hov := icells_over (r := w) (j := j) (by omega) (v.getD j 0 - q * r.getD j 0)
  have hvj := hv j hj
  have hrj := hr j hj
  have hm1 := mul_b2 hq hrj
  repeat' (first | (refine WO.opE (by intro; simp (disch := omega) only [go_sem, Zz.look, hia, hib, Nat.mul_one, Nat.zero_add]; rfl) (by simp only [pt8, pt0, pt1, pt2, pt3, pt4, pt5, pt6, pt7]; rfl) ?_) | (refine WO.opN (by intro; simp (disch := omega) only [go_sem, Zz.look, Option.bind_eq_bind, hov, Nat.zero_add, setBlk, List.set_cons_zero]; rfl) ?_) | (refine WC.seq ?_) | (refine WC.region ?_) | (refine WO.nil ?_) | (simp only [fl10]) | (refine WC.skip ?_) | (refine WC.block ?_) | (refine WC.em2 rfl (fun hp => ?_) (fun hp => ?_) <;> try (exfalso; first | omega | contradiction)))
  exact ⟨m - 1, by omega, _, j + 1, w.set j (v.getD j 0 - q * r.getD j 0), rfl, rfl, rfl, rfl, rfl, rfl, rfl, by omega, by simpa using hw6, fun t ht => by
   by_cases e : t = j
   ·subst e; rw [getD_set_self (by omega)]
   ·rw [getD_set_ne (by omega)]; exact hw1 t (by omega), fun t ht => by rw [getD_set_ne (by omega)]; exact hw2 t (by omega)⟩
 ·have hje : j = 6 := by omega
  subst hje
  have hwe : w = subV v q r := getD_ext (by rw [hw6, sub_len]) fun t ht => by rw [hw1 t (by omega), sub_at (by omega)]
  subst hwe
  have hcz := icells_cut hw6
  have hmw : (icells (subV v q r)).length = 6 := by rw [icells_len, hw6]
  have hov := fun x0 x1 x2 x3 x4 x5 => icells_over6 hw6 (x0 := x0) (x1 := x1) (x2 := x2) (x3 := x3) (x4 := x4) (x5 := x5)
  have hze : icells zer6 = [.int .i64 0, .int .i64 0, .int .i64 0, .int .i64 0, .int .i64 0, .int .i64 0] := rfl
  rw [hze]
  repeat' (first | (refine WO.opE (by intro; simp (disch := omega) only [go_sem, Zz.look, hcz]; rfl) (by simp only [pt8, pt3, pt7]; rfl) ?_) | (refine WO.opN (by intro; simp (disch := omega) only [go_sem, Zz.look, Option.bind_eq_bind, hmw, hov, setBlk, List.set_cons_zero, List.set_cons_succ]; rfl) ?_) | (refine WC.seq ?_) | (refine WC.region ?_) | (refine WO.nil ?_) | (simp only [fl1]) | (refine WC.no rfl ?_) | (refine WC.exit ?_) | (refine WC.ret ?_))
  exact ⟨_, by simp only [evRes, gt6, Zz.look, List.getElem?_cons_zero, List.getElem?_cons_succ, loadCs, hcz, if_true, Option.bind_some, Option.map_some]; rfl, rfl⟩
theorem s126 {v r : List Int} {q : Int} (hv6 : v.length = 6) (hr6 : r.length = 6) (hv : okB 1000000000 v) (hr : okB 6000000000 r) (hq : -1000000000 ≤ q ∧ q ≤ 1000000000) {m : Mem} : borrowE M2 126 [.agg (icells v), .int .i64 q, .agg (icells r)] m = some (.agg (icells (subV v q r)), m) :=
 borrowE_of (pures_cons (pureI v) (pures_cons rfl (pures_cons (pureI r) rfl))) ((f126 hv6 hr6 hv hr hq).mono fun y m' h => by rw [h]; simp only [Zz.resV, Zz.resA, resA_icells])
noncomputable def M3 : Env := M2.put 126 (borrowE M2 126)
theorem M3_ok : EnvOk Try.prog M3 := Env.put_ok M2_ok (borrowE_ok M2_ok (callable Try.func126 (by kernel_rfl)))
theorem f141 {x : Int} {H : Hp} {L : List (Option ALoop)} : WF M3 (.func 141 [] []) [.int .i64 x] ⟨H, L⟩ fun y m' => y = .bool (decide (x ≠ 0)) ∧ m' = ⟨H, L⟩ := by
 refine WF.fnE rfl (fn_of Try.func141 cir141) (by show 1 ≤ 5; decide) ?_
 unfold ir141
 simp only [padTo, List.replicate, zNA, zAN]
 repeat' (first | (refine WO.opE (by intro; simp (disch := omega) only [go_sem]; rfl) (by simp only [pt2, pt3, pt4]; rfl) ?_) | (refine WC.seq ?_) | (refine WC.region ?_) | (refine WO.nil ?_) | (simp only [fl1]) | (refine WC.ret ?_))
 exact ⟨_, rfl, rfl, rfl⟩
theorem f134r {r : List Int} {b p : Nat} (h6 : r.length = 6) (hp : p < 6) (hz : ∀ t, t < p → r.getD t 0 = 0) (hpp : r.getD p 0 ≠ 0) {H : Hp} {L : List (Option ALoop)} (hk : Zz.look H b 0 = some (icells r)) :
  WF M3 (.func 134 [] []) [.sref b 0 0 1 6 (some 6), .func 141 [] []] ⟨H, L⟩ fun y m' => y = .int .i64 (p : Nat) ∧ m' = ⟨H, L⟩ := by
 refine WF.fnE rfl (fn_of Try.func134 cir134) (by show 2 ≤ 19; decide) ?_
 unfold ir134
 simp only [padTo, List.replicate, zNA, zAN]
 repeat' (first | (refine WO.opE (by intro; simp (disch := omega) only [go_sem]; rfl) (by simp only [pt8, pt0, pt4, pt6]; rfl) ?_) | (refine WO.opE (by intro; exact ev_lenS (by simp only [go_sem]; first | rfl | assumption)) (by simp only [pt7]; rfl) ?_) | (refine WC.seq ?_) | (refine WC.region ?_) | (refine WO.nil ?_) | (simp only [fl1]) | (refine WC.block ?_))
 refine WC.loopI (fun m s => ∃ T j, s = ⟨T, H, L⟩ ∧ T.length = 19 ∧ gt T 0 = .sref b 0 0 1 6 (some 6) ∧ gt T 1 = .func 141 [] [] ∧ gt T 7 = .int .i64 6 ∧ gt T 8 = .int .i64 (j : Nat) ∧ m + j = 6 ∧ j ≤ p) ?_ 6 _ ⟨_, 0, rfl, rfl, rfl, rfl, rfl, rfl, by omega, by omega⟩
 rintro m _ ⟨T, j, rfl, hT, g0, g1, g7, g8, hm, hjp⟩
 obtain ⟨f, rfl⟩ := ex19 hT
 clear hT
 replace g0 : f 0 = .sref b 0 0 1 6 (some 6) := g0
 replace g1 : f 1 = .func 141 [] [] := g1
 replace g7 : f 7 = .int .i64 6 := g7
 replace g8 : f 8 = .int .i64 (j : Nat) := g8
 simp only [g0, g1, g7, g8]
 have hat := icells_at (r := r) (j := j) (by omega)
 have hix : indexAddrAV 1 (.sref b 0 0 1 6 (some 6)) (.int .i64 (j : Int)) = some (.pref b 0 j) := by rw [ia_sref, idx_nat (by omega)]; simp
 repeat' (first | (refine WO.opE (by intro; simp (disch := omega) only [go_sem, hix, hk, hat]; rfl) (by simp only [pt8, pt1, pt2, pt3, pt4, pt5, pt6, pt7]; rfl) ?_) | (refine WC.seq ?_) | (refine WC.region ?_) | (refine WO.nil ?_) | (simp only [fl1]) | (refine WC.skip ?_) | (refine WC.block ?_) | (refine WC.em2 rfl (fun hp => ?_) (fun hp => ?_) <;> try (exfalso; first | omega | contradiction)))
 refine WO.call rfl rfl (f141.mono ?_)
 rintro y m' ⟨rfl, rfl⟩
 simp only [pt8, pt0]
 by_cases hje : j = p
 ·subst hje
  rw [decide_eq_true hpp]
  repeat' (first | (refine WO.opE (by intro; simp (disch := omega) only [go_sem]; rfl) (by simp only [pt8, pt1, pt4]; rfl) ?_) | (refine WC.seq ?_) | (refine WC.region ?_) | (refine WO.nil ?_) | (simp only [fl1, fl2, fl5, fl8]) | (refine WC.yes rfl ?_) | (refine WC.ret ?_))
  exact ⟨_, rfl, rfl, rfl⟩
 ·rw [hz j (by omega), decide_eq_false (show ¬ ((0 : Int) ≠ 0) from fun hh => hh rfl)]
  repeat' (first | (refine WO.opE (by intro; simp (disch := omega) only [go_sem]; rfl) (by simp only [pt8, pt0, pt2]; rfl) ?_) | (refine WC.region ?_) | (refine WO.nil ?_) | (simp only [fl10]) | (refine WC.no rfl ?_) | (refine WC.skip ?_))
  exact ⟨m - 1, by omega, _, j + 1, rfl, rfl, rfl, rfl, rfl, rfl, by omega, by omega⟩
set_option maxRecDepth 100000
set_option maxHeartbeats 8000000
def colsF (rows : List (List Int)) : List Nat := if VM rows then (fwdF rows).js else []
theorem cut2a {a b : AV} : Zz.cut [a, b] 0 2 = some [a, b] := rfl
theorem s122 {l : AV} {rows : List (List Int)} (hl : RwL l rows) (hmax : rows.length < 9223372036854775807) : ∃ xr xc, RwL xr (hermR rows) ∧ NatS xc (colsF rows) ∧ ∀ m, borrowE M3 122 [l] m = some (.tuple [.agg [xr, xc], .int .i64 (errC rows)], m) := by
 obtain ⟨xr, hxr, c27⟩ := x27 hl hmax
 have c27 := fun m => c27 m l (hl.byVal _)
 by_cases hv : VM rows
 ·have ec : errC rows = 0 := if_pos hv
  have eh : hermR rows = hermF rows := if_pos hv
  have ek : colsF rows = (fwdF rows).js := if_pos hv
  have h6 : Six rows := fun i hi => hl.six hi
  rw [ec] at c27 ⊢
  rw [eh] at hxr ⊢
  rw [ek]
  have hxl := hxr.len
  have hxc := hxr.cells
  unfold AV.cells at hxc
  have hH := herm_lat hv h6
  have hHf := hH.hf
  rw [← hH.len] at hHf
  have hr := rank_le (fwd_B hv h6)
  have hl6 : (hermF rows).length ≤ 6 := by rw [hH.len]; have := (fwd_B hv h6).six; omega
  have hjl : (fwdF rows).js.length = (hermF rows).length := hH.len.symm
  have hw : WF M3 (.func 122 [] []) [l] ⟨[], []⟩ fun y m' => ∃ u q, y = .tuple [.agg [xr, u], .int .i64 0] ∧ GS 1 m'.heap u q (ncells (fwdF rows).js) := by
   refine WF.fnE rfl (fn_of Try.func122 cir122) (by show 1 ≤ 35; decide) ?_
   unfold ir122
   simp only [padTo, List.replicate, zNA, zAN]
   repeat' (first | (refine WO.opE (by intro; simp (disch := omega) only [go_sem, zCA, zNA, fillP, Option.bind_eq_bind, ov_one0, hxc]; rfl) (by simp only [pt8, pt1, pt2, pt3, pt4, pt5, pt6, pt7]; rfl) ?_) | (refine WO.opN (by intro; simp (disch := omega) only [go_sem, Zz.look, Option.bind_eq_bind, ov_all2, Nat.reduceAdd, setBlk, List.set_cons_zero, List.set_cons_succ]; rfl) ?_) | (refine WO.opE (by intro; exact ev_lenS (by simp only [go_sem]; first | rfl | assumption)) (by simp only [pt8, pt5]; rfl) ?_) | (refine WO.specE rfl rfl (c27 _) (by simp only [pt8, pt3]; rfl) ?_) | (refine WC.seq ?_) | (refine WC.region ?_) | (refine WO.nil ?_) | (simp only [fl1]) | (refine WC.no rfl ?_) | (refine WC.skip ?_) | (refine WC.block ?_))
   refine WC.loopI (fun m s => ∃ T G u q i, s = ⟨T, G, []⟩ ∧ T.length = 35 ∧ gt T 2 = .pref 0 0 0 ∧ gt T 4 = xr ∧ gt T 6 = .pref 1 0 0 ∧ gt T 20 = xr ∧ gt T 21 = .int .i64 ((hermF rows).length : Nat) ∧ gt T 22 = .int .i64 (i : Nat) ∧ m + i = (hermF rows).length ∧ Zz.look G 0 0 = some [.snil, .snil] ∧ Zz.look G 1 0 = some [xr, u] ∧ 1 < q ∧ GS 1 G u q (ncells ((fwdF rows).js.take i))) ?_ (hermF rows).length _ ⟨_, _, .snil, 2, 0, rfl, rfl, rfl, rfl, rfl, rfl, rfl, rfl, by omega, rfl, rfl, by decide, .inl ⟨rfl, rfl⟩⟩
   rintro m _ ⟨T, G, u, q, i, rfl, hT, g2, g4, g6, g20, g21, g22, hm, k0, k1, hq, hgs⟩
   obtain ⟨f, rfl⟩ := ex35 hT
   clear hT
   replace g2 : f 2 = .pref 0 0 0 := g2
   replace g4 : f 4 = xr := g4
   replace g6 : f 6 = .pref 1 0 0 := g6
   replace g20 : f 20 = xr := g20
   replace g21 : f 21 = .int .i64 ((hermF rows).length : Nat) := g21
   replace g22 : f 22 = .int .i64 (i : Nat) := g22
   simp only [g2, g4, g6, g20, g21, g22]
   have l0 := look_lt k0
   have l1 := look_lt k1
   have huc : u.cells = some [u] := by
    rcases hgs with ⟨rfl, _⟩ | ⟨g, rfl, _⟩ | ⟨g, n, rfl, _⟩ <;> rfl
   unfold AV.cells at huc
   by_cases hi : i < (hermF rows).length
   ·have g6 := hxr.six hi
    have hat := hxr.at hi
    have hcut := cut_row (t := tailr (hermF rows) i) g6
    have hcr : (rw_ (hermF rows) i).map (AV.int .i64) = icells (rw_ (hermF rows) i) := rfl
    rw [hcr] at hat hcut
    have hov := fun x0 x1 x2 x3 x4 x5 => icells_over6 g6 (x0 := x0) (x1 := x1) (x2 := x2) (x3 := x3) (x4 := x4) (x5 := x5)
    have hml : (icells (rw_ (hermF rows) i)).length = 6 := by rw [icells_len, g6]
    have kk0 : Zz.look (G ++ [some ⟨0, icells (rw_ (hermF rows) i)⟩]) 0 0 = some [.snil, .snil] := (look_left l0).trans k0
    have kk1 : Zz.look (G ++ [some ⟨0, icells (rw_ (hermF rows) i)⟩]) 1 0 = some [xr, u] := (look_left l1).trans k1
    have hp6 := hHf.plt i hi
    have hpp := hHf.pos i hi
    have hln : (ncells ((fwdF rows).js.take i)).length = i := by rw [ncells_len, List.length_take, hjl]; omega
    obtain ⟨v2, q2, G2, b1, g2, b2, b3, b4⟩ := (hgs.more [some ⟨0, icells (rw_ (hermF rows) i)⟩, some ⟨0, [.int .i64 (((fwdF rows).js.getD i 0 : Nat) : Int)]⟩]).append (L := []) (bytes := 8) (n := 1) (cap := some 1) (id := G.length + 1) (lk1 rfl) rfl Nat.one_pos (by decide) ⟨by rw [Nat.div_one, hln]; omega, by rw [Nat.div_one, hln]; omega⟩
    have e1 : ncells ((fwdF rows).js.take i) ++ [.int .i64 (((fwdF rows).js.getD i 0 : Nat) : Int)] = ncells ((fwdF rows).js.take (i + 1)) := by
     rw [take_succN (by omega), ncells_app]
     rfl
    rw [e1] at g2
    have hG2 : ∀ p, p < 2 → ∀ c, Zz.look G p 0 = some c → Zz.look G2 p 0 = some c := fun p hp c hc => by
     have hg := b4 p (by simp; omega) (by omega)
     rw [look_of_get hg]
     exact (look_left (by omega)).trans hc
    have hk21 := hG2 1 (by decide) _ k1
    have hk20 := hG2 0 (by decide) _ k0
    have hsa : sliceArrAV (G ++ [some ⟨0, icells (rw_ (hermF rows) i)⟩]) 6 1 (.pref G.length 0 0) none none none = some (.sref G.length 0 0 1 6 (some 6)) := by
     have hlk : Zz.look (G ++ [some ⟨0, icells (rw_ (hermF rows) i)⟩]) G.length 0 = some (icells (rw_ (hermF rows) i)) := lk0 rfl
     simp only [sliceArrAV, hlk, Option.bind_some, hml]
     rfl
    repeat' (first | (refine WO.opE (by intro; simp (disch := omega) only [go_sem, hat, hcut]; rfl) (by simp only [pt8, pt0, pt1, pt7]; rfl) ?_) | (refine WO.opN (by intro; simp (disch := omega) only [go_sem, Option.bind_eq_bind, app_s0, hov, hml, lk0, setBlk]; rfl) ?_) | (refine WC.seq ?_) | (refine WC.region ?_) | (refine WO.nil ?_) | (simp only [fl1, fl4]) | (refine WC.drawT ?_) | (refine WT.free rfl (by intro; simp (disch := omega) only [go_sem, kk1]; rfl) rfl (by simp only [pt8, pt2, pt3]; rfl) ?_) | (refine WT.big rfl rfl (by intro; simp (disch := omega) only [go_sem, kk1]; rfl) (by simp (disch := omega) only [go_sem, touch]; rfl) (by first | exact .inl rfl | exact .inr (apart_nil _) | exact .inr trivial | (right; apply apart_mk; simp only [apartL, zNA, zCA, List.getElem?_cons_succ, List.getElem?_cons_zero, Tch.free, and_true, true_and]; first | done | omega)) (by simp only [pt8, pt3]; rfl) ?_) | (refine WC.skip ?_) | (refine WC.block ?_) | (refine WC.em2 rfl (fun hp => ?_) (fun hp => ?_) <;> try (exfalso; first | omega | contradiction)))
    refine WT.sliceArr rfl hsa (apart_nil _) (by simp only [pt8, pt4]; rfl) ?_
    refine WT.callR (fun y R => y = .int .i64 (((fwdF rows).js.getD i 0 : Nat) : Int) ∧ R = []) [G.length] rfl rfl (fun j hj => by
     rw [List.mem_singleton] at hj
     subst hj
     refine apart_mk ?_
     simp only [apartL, zNA, zCA, List.getElem?_cons_succ, List.getElem?_cons_zero, Tch.free, and_true]
     omega) ?_ ?_
    ·intro V hV hVb
     refine (f134r (r := rw_ (hermF rows) i) (b := G.length) g6 hp6 (fun t ht => hHf.zero i hi t ht) (by have := hpp; unfold ent at this; omega) (by
      rw [look_of_get (hVb _ (by simp))]
      exact lk0 rfl)).mono ?_
     rintro y m' ⟨rfl, rfl⟩
     exact ⟨rfl, [], by simp, rfl, rfl⟩
    rintro _ R ⟨rfl, rfl⟩
    simp only [zAN, pt8, pt5]
    have hst : (G2 : Hp).set 1 (some ⟨0, [xr, v2]⟩) = G2.set 1 (some ⟨0, [xr, v2]⟩) := rfl
    have hvc : v2.cells = some [v2] := by
     rcases g2 with ⟨rfl, _⟩ | ⟨g, rfl, _⟩ | ⟨g, n, rfl, _⟩ <;> rfl
    unfold AV.cells at hvc
    repeat' (first | (refine WO.opE (by intro; simp (disch := omega) only [go_sem]; rfl) (by simp only [pt8, pt1, pt6]; rfl) ?_) | (refine WT.append (sv := u) (xv := .sref (G.length + 1) 0 0 1 1 (some 1)) rfl rfl b1 (apart_nil _) (apart_nil _) (by simp only [pt8, pt7]; rfl) ?_) | (refine WC.region ?_) | (refine WO.nil ?_) | (simp only [fl10]) | (refine WT.nil ?_) | (refine WT.free rfl (by intro; simp (disch := omega) only [go_sem, fillP, Option.bind_eq_bind, List.append_assoc, zeros, List.length_append, ov_one0]; rfl) rfl (by simp only [pt8, pt0]; rfl) ?_) | (refine WT.big rfl rfl (by intro; simp (disch := omega) only [go_sem, fillP, Option.bind_eq_bind, List.append_assoc, zeros, List.length_append, ov_one0]; rfl) (by simp (disch := omega) only [go_sem, List.length_append, touch]; rfl) (by first | exact .inl rfl | exact .inr (apart_nil _) | exact .inr trivial | (right; apply apart_mk; simp only [apartL, zNA, zCA, List.getElem?_cons_succ, List.getElem?_cons_zero, Tch.free, and_true, true_and]; first | done | omega)) (by simp only [pt8, pt6]; rfl) ?_) | (refine WT.bigN rfl rfl (by intro; simp (disch := omega) only [go_sem, Option.bind_eq_bind, ov_one1, hk21, hvc, setBlk]; rfl) (by simp (disch := omega) only [go_sem, touch]; rfl) (by first | exact .inl rfl | exact .inr (apart_nil _) | exact .inr trivial | (right; apply apart_mk; simp only [apartL, zNA, zCA, List.getElem?_cons_succ, List.getElem?_cons_zero, Tch.free, and_true, true_and]; first | done | omega)) ?_))
    exact ⟨m - 1, by omega, _, _, v2, q2, i + 1, rfl, rfl, rfl, rfl, rfl, rfl, rfl, rfl, by omega, (look_of_get (List.getElem?_set_ne (by decide))).trans hk20, look_set (look_lt hk21), by rcases b2 with rfl | rfl; exact hq; simp, gs_keep g2 (.inr (List.getElem?_set_ne (by rcases b2 with rfl | rfl; omega; simp)))⟩
   ·have hie : i = (hermF rows).length := by omega
    subst hie
    rw [List.take_of_length_le (by omega)] at hgs
    have hres : Zz.look ((G : Hp).set 0 (some ⟨0, [xr, u]⟩)) 0 0 = some [xr, u] := look_set l0
    repeat' (first | (refine WO.opE (by intro; simp (disch := omega) only [go_sem, k1, cut2a]; rfl) (by simp only [pt8, pt2, pt3, pt7]; rfl) ?_) | (refine WO.opN (by intro; simp (disch := omega) only [go_sem, Option.bind_eq_bind, ov_all2, Nat.reduceAdd, k0, setBlk]; rfl) ?_) | (refine WC.seq ?_) | (refine WC.region ?_) | (refine WO.nil ?_) | (simp only [fl1]) | (refine WC.exit ?_) | (refine WC.ret ?_) | (refine WC.em2 rfl (fun hp => ?_) (fun hp => ?_) <;> try (exfalso; first | omega | contradiction)))
    exact ⟨_, by simp only [evRes, gt2, gt3, loadCs, hres, cut2a, if_true, Option.bind_some, Option.map_some]; rfl, u, q, rfl, gs_keep hgs (.inr (List.getElem?_set_ne (by omega)))⟩
  obtain ⟨n, y, m', h1, u, q, rfl, h2⟩ := hw.ex
  obtain ⟨xc, hx, hrx⟩ := GS.nat h2
  refine ⟨xr, xc, hxr, hx, fun m => borrowE_of (pures_cons hl.pureA rfl) ⟨⟨n, _, m', h1, ?_⟩⟩⟩
  have e1 : Zz.resC m'.heap xr = some xr := hxr.resC _
  have e2 : Zz.resC m'.heap u = some xc := (GS.resV h2).symm.trans hrx
  simp only [Zz.resV, Zz.resT, Zz.resA, Zz.resL, e1, e2]
  rfl
 ·have ec : errC rows = 1 := if_neg hv
  have eh : hermR rows = [] := if_neg hv
  have ek : colsF rows = [] := if_neg hv
  rw [ec] at c27 ⊢
  rw [eh] at hxr ⊢
  rw [ek]
  refine ⟨.snil, .snil, rwl_nil, .inl ⟨rfl, rfl⟩, fun m => borrowE_of (pures_cons hl.pureA rfl) ?_⟩
  refine WF.fnE rfl (fn_of Try.func122 cir122) (by show 1 ≤ 35; decide) ?_
  unfold ir122
  simp only [padTo, List.replicate, zNA, zAN]
  repeat' (first | (refine WO.opE (by intro; simp (disch := omega) only [go_sem, zNA, fillP]; rfl) (by simp only [pt8, pt0, pt1, pt2, pt3, pt4, pt5, pt6, pt7]; rfl) ?_) | (refine WO.opN (by intro; simp (disch := omega) only [go_sem, Zz.look, Option.bind_eq_bind, ov_all2, Nat.reduceAdd, setBlk, List.set_cons_zero]; rfl) ?_) | (refine WO.specE rfl rfl (c27 _) (by simp only [pt8, pt3]; rfl) ?_) | (refine WC.seq ?_) | (refine WC.region ?_) | (refine WO.nil ?_) | (simp only [fl1, fl2]) | (refine WC.yes rfl ?_) | (refine WC.ret ?_))
  exact ⟨_, rfl, rfl⟩
set_option maxRecDepth 100000
set_option maxHeartbeats 8000000
noncomputable def M4 : Env := M3.put 122 (borrowE M3 122)
theorem M4_ok : EnvOk Try.prog M4 := Env.put_ok M3_ok (borrowE_ok M3_ok (callable Try.func122 (by kernel_rfl)))
theorem floor_t {a b : Int} (hb : 0 < b) : a / b = if a.tmod b < 0 then a.tdiv b - 1 else a.tdiv b := by
 have h := Int.tmod_add_tdiv_mul a b
 have h1 := Int.tmod_lt_of_pos a hb
 have h2 := Int.lt_tmod_of_pos a hb
 split
 ·have e : a = (a.tmod b + b) + (a.tdiv b - 1) * b := by grind
  rw (occs := .pos [1]) [e]
  rw [Int.add_mul_ediv_right _ _ (by omega), Int.ediv_eq_zero_of_lt (by omega) (by omega)]
  omega
 ·have e : a = a.tmod b + a.tdiv b * b := by omega
  rw (occs := .pos [1]) [e]
  rw [Int.add_mul_ediv_right _ _ (by omega), Int.ediv_eq_zero_of_lt (by omega) (by omega)]
  omega
theorem floor_bd {a b : Int} (hb : 0 < b) (ha : -1000000000 ≤ a ∧ a ≤ 1000000000) : -1000000000 ≤ a / b ∧ a / b ≤ 1000000000 := by
 constructor
 ·exact Int.le_ediv_of_mul_le hb (by omega)
 ·have := Int.ediv_lt_of_lt_mul (a := a) (b := 1000000001) hb (by omega)
  omega
def remL (h : List (List Int)) (js : List Nat) (v : List Int) : Nat → List Int
 | 0 => v
 | i + 1 => subV (remL h js v i) ((remL h js v i).getD (js.getD i 0) 0 / (rw_ h i).getD (js.getD i 0) 0) (rw_ h i)
def quoL (h : List (List Int)) (js : List Nat) (v : List Int) (i : Nat) : Int := (remL h js v i).getD (js.getD i 0) 0 / (rw_ h i).getD (js.getD i 0) 0
theorem remL_succ {h : List (List Int)} {js : List Nat} {v : List Int} {i : Nat} : remL h js v (i + 1) = subV (remL h js v i) (quoL h js v i) (rw_ h i) := rfl
theorem remL_len {h : List (List Int)} {js : List Nat} {v : List Int} (h6 : v.length = 6) : ∀ i, (remL h js v i).length = 6
 | 0 => h6
 | i + 1 => sub_len _ _ _
structure DivB (h : List (List Int)) (js : List Nat) : Prop where
 len : js.length = h.length
 le : h.length ≤ 6
 six : ∀ i, i < h.length → (rw_ h i).length = 6
 lt : ∀ i, i < h.length → js.getD i 0 < 6
 pos : ∀ i, i < h.length → 0 < (rw_ h i).getD (js.getD i 0) 0
 bd : ∀ i, i < h.length → okB 6000000000 (rw_ h i)
theorem f142 {xr xc : AV} {h : List (List Int)} {js : List Nat} {v : List Int} (hxr : RwL xr h) (hxc : NatS xc js) (hD : DivB h js) (hv6 : v.length = 6) {bb bv y : Nat} {H0 : Hp} {L : List (Option ALoop)} (I J : Nat → Hp → Prop) (P : Mem → Prop) (h0 : I 0 H0)
  (hbox : ∀ i H, I i H → Zz.look H bb 0 = some [xr, xc] ∧ Zz.look H bv 0 = some (icells (remL h js v i)) ∧ okB 1000000000 (remL h js v i))
  (hst : ∀ i H B, i < h.length → I i H → J (i + 1) ((H ++ [B]).set bv (some ⟨0, icells (remL h js v (i + 1))⟩)))
  (hy : ∀ i H, i < h.length → J (i + 1) H → WF M4 (.yield y) [.int .i64 (quoL h js v i), .agg (icells (remL h js v (i + 1)))] ⟨H, L⟩ fun w m' => (w = .bool true ∧ m'.loops = L ∧ I (i + 1) m'.heap) ∨ (w = .bool false ∧ P m')) :
  WF M4 (.func 142 [] [.pref bb 0 0, .pref bv 0 0]) [.yield y] ⟨H0, L⟩ fun w m' => (m'.loops = L ∧ I h.length m'.heap) ∨ P m' := by
 have hxl := hxr.len
 have hle := hD.le
 have hxx := hxr.cells
 unfold AV.cells at hxx
 obtain ⟨k0, _, _⟩ := hbox _ _ h0
 have k0b : Zz.cut [xr, xc] 0 1 = some [xr] := rfl
 refine WF.fnE rfl (fn_of Try.func142 cir142) (by show 3 ≤ 50; decide) ?_
 unfold ir142
 simp only [padTo, List.replicate, zNA, zCA]
 repeat' (first | (refine WO.opE (by intro; simp (disch := omega) only [go_sem, k0]; rfl) (by simp only [pt8, pt1, pt2, pt4]; rfl) ?_) | (refine WO.opE (by intro; exact ev_lenS (by simp only [go_sem]; first | rfl | assumption)) (by simp only [pt8, pt3]; rfl) ?_) | (refine WC.seq ?_) | (refine WC.region ?_) | (refine WO.nil ?_) | (simp only [fl1]) | (refine WC.block ?_))
 refine WC.loopI (fun m s => ∃ T G i, s = ⟨T, G, L⟩ ∧ T.length = 50 ∧ gt T 0 = .yield y ∧ gt T 1 = .pref bb 0 0 ∧ gt T 2 = .pref bv 0 0 ∧ gt T 10 = xr ∧ gt T 11 = .int .i64 (h.length : Nat) ∧ gt T 12 = .int .i64 (i : Nat) ∧ m + i = h.length ∧ I i G) ?_ h.length _ ⟨_, _, 0, rfl, rfl, rfl, rfl, rfl, rfl, rfl, rfl, by omega, h0⟩
 clear k0 h0
 rintro m _ ⟨T, G, i, rfl, hT, g0, g1, g2, g10, g11, g12, hm, hI⟩
 obtain ⟨f, rfl⟩ := ex50 hT
 clear hT
 replace g0 : f 0 = .yield y := g0
 replace g1 : f 1 = .pref bb 0 0 := g1
 replace g2 : f 2 = .pref bv 0 0 := g2
 replace g10 : f 10 = xr := g10
 replace g11 : f 11 = .int .i64 (h.length : Nat) := g11
 replace g12 : f 12 = .int .i64 (i : Nat) := g12
 simp only [g0, g1, g2, g10, g11, g12]
 by_cases hi : i < h.length
 ·obtain ⟨k0, k1, hok⟩ := hbox _ _ hI
  have l0 := look_lt k0
  have l1 := look_lt k1
  have g6 := hD.six i hi
  have hat := hxr.at hi
  have hcut := cut_row (t := tailr h i) g6
  have hcr : (rw_ h i).map (AV.int .i64) = icells (rw_ h i) := rfl
  rw [hcr] at hat hcut
  have hov := fun x0 x1 x2 x3 x4 x5 => icells_over6 g6 (x0 := x0) (x1 := x1) (x2 := x2) (x3 := x3) (x4 := x4) (x5 := x5)
  have hml : (icells (rw_ h i)).length = 6 := by rw [icells_len, g6]
  have kk0 : Zz.look (G ++ [some ⟨0, icells (rw_ h i)⟩]) bb 0 = some [xr, xc] := (look_left l0).trans k0
  have kk1 : Zz.look (G ++ [some ⟨0, icells (rw_ h i)⟩]) bv 0 = some (icells (remL h js v i)) := (look_left l1).trans k1
  obtain ⟨t, hjat⟩ := hxc.at (k := i) (by rw [hD.len]; exact hi)
  have hp := hD.lt i hi
  have hpos := hD.pos i hi
  have hr6 := remL_len (h := h) (js := js) hv6 i
  have hr6' := remL_len (h := h) (js := js) hv6 (i + 1)
  have hrc := icells_cut hr6
  have hrc' := icells_cut hr6'
  have hgc := icells_cut g6
  have hrl : (icells (remL h js v i)).length = 6 := by rw [icells_len, hr6]
  have hrl' : (icells (remL h js v (i + 1))).length = 6 := by rw [icells_len, hr6']
  have hia := icells_at (r := remL h js v i) (j := js.getD i 0) (by omega)
  have hib := icells_at (r := rw_ h i) (j := js.getD i 0) (by omega)
  have hfb := hok _ hp
  have hqb := floor_bd hpos hfb
  have htb := tdiv_bd (b := (rw_ h i).getD (js.getD i 0) 0) (by omega) hfb
  have hfl := floor_t (a := (remL h js v i).getD (js.getD i 0) 0) hpos
  have hbd := hD.bd i hi
  have hbr := hbd _ hp
  have hm1 := Int.tmod_lt_of_pos ((remL h js v i).getD (js.getD i 0) 0) hpos
  have hm2 := Int.lt_tmod_of_pos ((remL h js v i).getD (js.getD i 0) 0) hpos
  have c126 := fun m => s126 (m := m) hr6 g6 hok hbd hqb
  have hq0 : (remL h js v i).getD (js.getD i 0) 0 / (rw_ h i).getD (js.getD i 0) 0 = quoL h js v i := rfl
  rw [hq0] at c126 hqb hfl
  have hs0 : subV (remL h js v i) (quoL h js v i) (rw_ h i) = remL h js v (i + 1) := rfl
  rw [hs0] at c126
  have hov' := fun x0 x1 x2 x3 x4 x5 => icells_over6 hr6' (x0 := x0) (x1 := x1) (x2 := x2) (x3 := x3) (x4 := x4) (x5 := x5)
  have hovr : Zz.over (icells (remL h js v i)) 0 (icells (remL h js v (i + 1))) = some (icells (remL h js v (i + 1))) := by
   unfold Zz.over
   rw [hrl, hrl']
   simp [hrl]
  have hJ := hst i G (some ⟨0, icells (rw_ h i)⟩) hi hI
  have hne : (rw_ h i).getD (js.getD i 0) 0 ≠ 0 := by omega
  generalize hx : (remL h js v i).getD (js.getD i 0) 0 = x at *
  generalize hb : (rw_ h i).getD (js.getD i 0) 0 = b at *
  have hk2 : Zz.look ((G ++ [some ⟨0, icells (rw_ h i)⟩] : Hp).set bv (some ⟨0, icells (remL h js v (i + 1))⟩)) bv 0 = some (icells (remL h js v (i + 1))) := look_set (look_lt kk1)
  have c2 : Zz.cut [xr, xc] 1 1 = some [xc] := rfl
  repeat' (first | (refine WO.opE (by intro; simp (disch := omega) only [go_sem, hat, hcut, lk0, kk0, kk1, hjat, hia, hib, hne, if_false, Nat.mul_one, hrc, hgc]; rfl) (by simp only [pt8, pt0, pt1, pt2, pt3, pt4, pt5, pt6, pt7]; rfl) ?_) | (refine WO.opN (by intro; simp (disch := omega) only [go_sem, Option.bind_eq_bind, app_s0, hov, hml, lk0]; rfl) ?_) | (refine WC.seq ?_) | (refine WC.region ?_) | (refine WO.nil ?_) | (simp only [fl1]) | (refine WC.calm rfl ?_) | (refine WC.skip ?_) | (refine WC.block ?_) | (refine WC.em2 rfl (fun hp => ?_) (fun hp => ?_) <;> try (exfalso; first | omega | contradiction)))
  ·have e : x.tdiv b - 1 = quoL h js v i := by rw [hfl, if_pos hp]
   simp only [e]
   repeat' (first | (refine WO.opE (by intro; simp (disch := omega) only [go_sem, hk2, hrc']; rfl) (by simp only [pt8, pt4, pt5, pt6]; rfl) ?_) | (refine WO.opN (by intro; simp (disch := omega) only [go_sem, Option.bind_eq_bind, kk1, hovr, hrl', setBlk]; rfl) ?_) | (refine WO.specE rfl rfl (c126 _) (by simp only [pt8, pt3]; rfl) ?_) | (refine WC.seq ?_) | (refine WC.region ?_) | (refine WO.nil ?_) | (simp only [fl1]))
   refine WO.call rfl rfl ((hy i _ hi hJ).mono ?_)
   rintro w ⟨H2, L2⟩ (⟨rfl, rfl, hI2⟩ | ⟨rfl, hP⟩)
   ·simp only [pt8, pt7]
    repeat' (first | (refine WO.opE (by intro; simp (disch := omega) only [go_sem]; rfl) (by simp only [pt8, pt0, pt1, pt4]; rfl) ?_) | (refine WC.region ?_) | (refine WO.nil ?_) | (simp only [fl10]) | (refine WC.no rfl ?_) | (refine WC.skip ?_))
    exact ⟨m - 1, by omega, _, _, i + 1, rfl, rfl, rfl, rfl, rfl, rfl, rfl, rfl, by omega, hI2⟩
   ·simp only [pt8, pt7]
    repeat' (first | (refine WO.opE (by intro; simp (disch := omega) only [go_sem]; rfl) (by simp only [pt8, pt0]; rfl) ?_) | (refine WO.nil ?_) | (simp only [fl2, fl5, fl8]) | (refine WC.yes rfl ?_) | (refine WC.ret ?_))
    exact ⟨_, rfl, .inr hP⟩
  ·have e : x.tdiv b = quoL h js v i := by rw [hfl, if_neg hp]
   simp only [e]
   repeat' (first | (refine WO.opE (by intro; simp (disch := omega) only [go_sem, hk2, hrc']; rfl) (by simp only [pt8, pt4, pt5, pt6]; rfl) ?_) | (refine WO.opN (by intro; simp (disch := omega) only [go_sem, Option.bind_eq_bind, kk1, hovr, hrl', setBlk]; rfl) ?_) | (refine WO.specE rfl rfl (c126 _) (by simp only [pt8, pt3]; rfl) ?_) | (refine WC.seq ?_) | (refine WC.region ?_) | (refine WO.nil ?_) | (simp only [fl1]))
   refine WO.call rfl rfl ((hy i _ hi hJ).mono ?_)
   rintro w ⟨H2, L2⟩ (⟨rfl, rfl, hI2⟩ | ⟨rfl, hP⟩)
   ·simp only [pt8, pt7]
    repeat' (first | (refine WO.opE (by intro; simp (disch := omega) only [go_sem]; rfl) (by simp only [pt8, pt0, pt1, pt4]; rfl) ?_) | (refine WC.region ?_) | (refine WO.nil ?_) | (simp only [fl10]) | (refine WC.no rfl ?_) | (refine WC.skip ?_))
    exact ⟨m - 1, by omega, _, _, i + 1, rfl, rfl, rfl, rfl, rfl, rfl, rfl, rfl, by omega, hI2⟩
   ·simp only [pt8, pt7]
    repeat' (first | (refine WO.opE (by intro; simp (disch := omega) only [go_sem]; rfl) (by simp only [pt8, pt0]; rfl) ?_) | (refine WO.nil ?_) | (simp only [fl2, fl5, fl8]) | (refine WC.yes rfl ?_) | (refine WC.ret ?_))
    exact ⟨_, rfl, .inr hP⟩
 ·have hie : i = h.length := by omega
  subst hie
  repeat' (first | (refine WO.opE (by intro; simp (disch := omega) only [go_sem]; rfl) (by simp only [pt8, pt5]; rfl) ?_) | (refine WC.seq ?_) | (refine WC.region ?_) | (refine WO.nil ?_) | (simp only [fl3, fl6, fl9]) | (refine WC.exit ?_) | (refine WC.em2 rfl (fun hp => ?_) (fun hp => ?_) <;> try (exfalso; first | omega | contradiction)))
  exact ⟨_, rfl, .inl ⟨rfl, hI⟩⟩
set_option maxRecDepth 100000
set_option maxHeartbeats 8000000
def quosL (h : List (List Int)) (js : List Nat) (v : List Int) (i : Nat) : List Int := (List.range i).map (quoL h js v)
theorem quosL_succ {h : List (List Int)} {js : List Nat} {v : List Int} {i : Nat} : quosL h js v (i + 1) = quosL h js v i ++ [quoL h js v i] := by
 unfold quosL
 rw [List.range_succ, List.map_append]
 rfl
def divOk (h : List (List Int)) (js : List Nat) (v : List Int) : Prop := ∀ i, i < h.length → okB 1000000000 (remL h js v (i + 1))
instance (h : List (List Int)) (js : List Nat) (v : List Int) : Decidable (divOk h js v) := by unfold divOk; infer_instance
def DivC (rows : List (List Int)) (v : List Int) : Prop := (VM rows ∧ okB 1000000000 v) ∧ divOk (hermF rows) (fwdF rows).js v
instance (rows : List (List Int)) (v : List Int) : Decidable (DivC rows v) := by unfold DivC; infer_instance
def remD (rows : List (List Int)) (v : List Int) : List Int := if DivC rows v then remL (hermF rows) (fwdF rows).js v (hermF rows).length else zer6
def quoD (rows : List (List Int)) (v : List Int) : List Int := if DivC rows v then quosL (hermF rows) (fwdF rows).js v (hermF rows).length else []
def errD (rows : List (List Int)) (v : List Int) : Int := if VM rows ∧ okB 1000000000 v then if divOk (hermF rows) (fwdF rows).js v then 0 else 3 else 1
theorem herm_divB {rows : List (List Int)} (hv : VM rows) (h6 : Six rows) : DivB (hermF rows) (fwdF rows).js := by
 have hH := herm_lat hv h6
 have hHf := hH.hf
 rw [← hH.len] at hHf
 have hr := rank_le (fwd_B hv h6)
 have hb := herm_bd hv h6
 exact ⟨hH.len.symm, by rw [hH.len]; have := (fwd_B hv h6).six; omega, fun i hi => hH.six _ (by rw [rw_lt hi]; exact List.getElem_mem hi), hHf.plt, hHf.pos, fun i hi j hj => hb i j hi hj⟩
theorem f138 {a b : AV} {v : List Int} (h6 : v.length = 6) {H : Hp} {L : List (Option ALoop)} : WF M4 (.func 138 [.agg [a, b]] []) [.agg (icells v)] ⟨H, L⟩ fun y m' => y = .func 142 [] [.pref H.length 0 0, .pref (H.length + 1) 0 0] ∧ m' = ⟨H ++ [some ⟨0, [a, b]⟩, some ⟨0, icells v⟩], L⟩ := by
 refine WF.fnE rfl (fn_of Try.func138 cir138) (by show 2 ≤ 6; decide) ?_
 unfold ir138
 simp only [padTo, List.replicate, zNA, zAN, zCA]
 repeat' (first | (refine WO.opE (by intro; simp (disch := omega) only [go_sem, List.append_assoc, List.length_append]; rfl) (by simp only [pt2, pt3, pt4, pt5]; rfl) ?_) | (refine WC.seq ?_) | (refine WC.region ?_) | (refine WO.nil ?_) | (simp only [fl1]) | (refine WC.ret ?_))
 exact ⟨_, rfl, rfl, rfl⟩
structure IL (xr xc : AV) (h : List (List Int)) (js : List Nat) (v : List Int) (i : Nat) (H : Hp) : Prop where
 k0 : Zz.look H 0 0 = some (icells (remL h js v i))
 k1 : Zz.look H 1 0 = some (icells zer6)
 k2 : Zz.look H 2 0 = some [.snil]
 k3 : Zz.look H 3 0 = some [.int .i64 0]
 gs : ∃ u q, Zz.look H 5 0 = some [u] ∧ 7 < q ∧ GS 1 H u q (icells (quosL h js v i))
 k6 : Zz.look H 6 0 = some [xr, xc]
 k7 : Zz.look H 7 0 = some (icells (remL h js v i))
 ok : okB 1000000000 (remL h js v i)
 oks : ∀ k, k < i → okB 1000000000 (remL h js v (k + 1))
def JL (xr xc : AV) (h : List (List Int)) (js : List Nat) (v : List Int) : Nat → Hp → Prop
 | 0, _ => False
 | i + 1, H => Zz.look H 0 0 = some (icells (remL h js v i)) ∧ Zz.look H 1 0 = some (icells zer6) ∧ Zz.look H 2 0 = some [.snil] ∧ Zz.look H 3 0 = some [.int .i64 0] ∧ (∃ u q, Zz.look H 5 0 = some [u] ∧ 7 < q ∧ GS 1 H u q (icells (quosL h js v i))) ∧ Zz.look H 6 0 = some [xr, xc] ∧ Zz.look H 7 0 = some (icells (remL h js v (i + 1))) ∧ ∀ k, k < i → okB 1000000000 (remL h js v (k + 1))
def PL (h : List (List Int)) (js : List Nat) (v : List Int) (m : Mem) : Prop := ∃ r : ALoop, m.loops = [some r] ∧ r.pending = some .ret ∧ Zz.look m.heap 1 0 = some (icells zer6) ∧ Zz.look m.heap 2 0 = some [.snil] ∧ Zz.look m.heap 3 0 = some [.int .i64 3] ∧ ¬ divOk h js v
theorem f118 {l : AV} {rows : List (List Int)} (hl : RwL l rows) (hmax : rows.length < 9223372036854775807) {v : List Int} (h6 : v.length = 6) :
  WF M4 (.func 118 [] []) [l, .agg (icells v)] ⟨[], []⟩ fun y m' => ∃ u q, y = .tuple [.agg (icells (remD rows v)), u, .int .i64 (errD rows v)] ∧ GS 1 m'.heap u q (icells (quoD rows v)) := by
 obtain ⟨xr, xc, hxr, hxc, c122⟩ := s122 hl hmax
 have c125 := fun m => s125 (m := m) h6
 have hcv := icells_cut h6
 have hml : (icells v).length = 6 := by rw [icells_len, h6]
 have c2 : Zz.cut [xr, xc] 0 2 = some [xr, xc] := rfl
 by_cases hA : VM rows ∧ okB 1000000000 v
 ·have eC : errC rows = 0 := if_pos hA.1
  have eh : hermR rows = hermF rows := if_pos hA.1
  have ek : colsF rows = (fwdF rows).js := if_pos hA.1
  rw [eC] at c122
  rw [eh] at hxr
  rw [ek] at hxc
  have hD := herm_divB hA.1 (fun i hi => hl.six hi)
  have hok : decide (okB 1000000000 v) = true := decide_eq_true hA.2
  rw [hok] at c125
  refine WF.fnE rfl (fn_of Try.func118 cir118) (by show 2 ≤ 44; decide) ?_
  unfold ir118
  simp only [padTo, List.replicate, zNA, zAN]
  repeat' (first | (refine WO.yes rfl ?_) | (refine WO.opE (by intro; simp (disch := omega) only [go_sem, Zz.look, zCA, zNA, Nat.reduceAdd, hcv, c2]; rfl) (by simp only [pt8, pt0, pt1, pt2, pt3, pt4, pt5, pt6, pt7]; rfl) ?_) | (refine WO.opN (by intro; simp (disch := omega) only [go_sem, Zz.look, Option.bind_eq_bind, ov_all2, Nat.reduceAdd, setBlk, List.set_cons_zero, List.set_cons_succ]; rfl) ?_) | (refine WO.specE rfl rfl (c122 _) (by simp only [pt8, pt7]; rfl) ?_) | (refine WO.specE rfl rfl (c125 _) (by simp only [pt8, pt6]; rfl) ?_) | (refine WC.seq ?_) | (refine WC.region ?_) | (refine WO.nil ?_) | (simp only [fl1]) | (refine WC.no rfl ?_) | (refine WC.skip ?_))
  refine WO.call rfl rfl ((f138 h6).mono ?_)
  rintro _ m' ⟨rfl, rfl⟩
  simp only [pt8, pt6]
  repeat' (first | (refine WO.nil ?_) | (refine WC.block ?_))
  refine WC.rangeFunc rfl ((f142 hxr hxc hD h6 (bb := 6) (bv := 7) (IL xr xc (hermF rows) (fwdF rows).js v) (JL xr xc (hermF rows) (fwdF rows).js v) (PL (hermF rows) (fwdF rows).js v) ?_ (fun i H h => ⟨h.k6, h.k7, h.ok⟩) ?_ ?_).mono ?_)
  ·refine ⟨rfl, rfl, rfl, rfl, ⟨.snil, 8, rfl, by decide, GS.nil⟩, rfl, rfl, hA.2, fun k hk => by omega⟩
  ·rintro i H B hi ⟨k0, k1, k2, k3, ⟨u, q, k5, hq, hg⟩, k6, k7, ho, hos⟩
   have hmv : ∀ b, b < H.length → b ≠ 7 → ((H ++ [B]).set 7 (some ⟨0, icells (remL (hermF rows) (fwdF rows).js v (i + 1))⟩))[b]? = H[b]? := fun b hb hn => by
    rw [List.getElem?_set_ne (Ne.symm hn)]
    exact List.getElem?_append_left hb
   refine ⟨(look_of_get (hmv 0 (look_lt k0) (by decide))).trans k0, (look_of_get (hmv 1 (look_lt k1) (by decide))).trans k1, (look_of_get (hmv 2 (look_lt k2) (by decide))).trans k2, (look_of_get (hmv 3 (look_lt k3) (by decide))).trans k3, ⟨u, q, (look_of_get (hmv 5 (look_lt k5) (by decide))).trans k5, hq, ?_⟩, (look_of_get (hmv 6 (look_lt k6) (by decide))).trans k6, look_set (look_lt ((look_left (look_lt k7)).trans k7)), hos⟩
   rcases hg.lt with rfl | hql
   ·exact gs_keep hg (.inl rfl)
   ·exact gs_keep hg (.inr (hmv q hql (by omega)))
  ·rintro i H hi ⟨k0, k1, k2, k3, ⟨u, q, k5, hq, hg⟩, k6, k7, hos⟩
   refine WF.yield rfl rfl ?_
   generalize hL1 : List.set ([] ++ [_] : List (Option ALoop)) _ _ = L1
   simp only [setAll, pt8, pt0, pt7]
   have hr6 := remL_len (h := hermF rows) (js := (fwdF rows).js) h6 (i + 1)
   have c125 := fun m => s125 (m := m) hr6
   have hrc := icells_cut hr6
   have hrl : (icells (remL (hermF rows) (fwdF rows).js v (i + 1))).length = 6 := by rw [icells_len, hr6]
   have hov := fun x0 x1 x2 x3 x4 x5 => icells_over6 hr6 (x0 := x0) (x1 := x1) (x2 := x2) (x3 := x3) (x4 := x4) (x5 := x5)
   repeat' (first | (refine WO.opE (by intro; simp (disch := omega) only [go_sem, Nat.reduceAdd]; rfl) (by simp only [pt8, pt3, pt4]; rfl) ?_) | (refine WO.opN (by intro; simp (disch := omega) only [go_sem, Option.bind_eq_bind, app_s0, Nat.reduceAdd, lk0, hrl, hov]; rfl) ?_) | (refine WC.seq ?_) | (refine WC.region ?_) | (refine WO.nil ?_) | (simp only [fl1]))
   refine ⟨trivial, rfl, ?_⟩
   have l0 := look_lt k0
   have l1 := look_lt k1
   have l2 := look_lt k2
   have l3 := look_lt k3
   have l5 := look_lt k5
   have l6 := look_lt k6
   have l7 := look_lt k7
   have z6 : icells zer6 = [.int .i64 0, .int .i64 0, .int .i64 0, .int .i64 0, .int .i64 0, .int .i64 0] := rfl
   by_cases hb : okB 1000000000 (remL (hermF rows) (fwdF rows).js v (i + 1))
   ·rw [decide_eq_true hb] at c125
    have huc : u.cells = some [u] := by
     rcases hg with ⟨rfl, _⟩ | ⟨g, rfl, _⟩ | ⟨g, n, rfl, _⟩ <;> rfl
    unfold AV.cells at huc
    have hap : ∀ tch : List Tch, tch[3]? = some (.blk H.length) → apartT tch [3] (slBlk u) := fun tch ht => by
     rcases hg with ⟨rfl, _⟩ | ⟨g, rfl, _, h⟩ | ⟨g, n, rfl, _, _, h⟩
     ·trivial
     ·have := look_lt h
      exact apart_mk (by simp only [apartL, ht, Tch.free, and_true]; omega)
     ·have := look_lt h
      exact apart_mk (by simp only [apartL, ht, Tch.free, and_true]; omega)
    have hil : (quosL (hermF rows) (fwdF rows).js v i).length = i := by simp [quosL]
    obtain ⟨u2, q2, H2, b1, b2, b3, b4, b5⟩ := intPush (L := L1) hg (by have := hD.le; omega) (quoL (hermF rows) (fwdF rows).js v i) [some ⟨0, icells (remL (hermF rows) (fwdF rows).js v (i + 1))⟩, some ⟨0, [.int .i64 (quoL (hermF rows) (fwdF rows).js v i)]⟩] (id := H.length + 1) (lk1 rfl)
    rw [← quosL_succ] at b2
    simp only [List.length_cons, List.length_nil, Nat.zero_add, Nat.reduceAdd] at b3 b4 b5
    have hu2 : u2.cells = some [u2] := by
     rcases b2 with ⟨rfl, _⟩ | ⟨g, rfl, _⟩ | ⟨g, n, rfl, _⟩ <;> rfl
    unfold AV.cells at hu2
    have keep : ∀ p c, p ≤ 7 → Zz.look H p 0 = some c → Zz.look H2 p 0 = some c := fun p c hp hc => by
     rw [look_of_get (b5 p (by have := look_lt hc; omega) (by omega))]
     exact (look_left (look_lt hc)).trans hc
    have m0 := keep 0 _ (by decide) k0
    have m5 := keep 5 _ (by decide) k5
    have n5 : ∀ R, Zz.look (H ++ R) 5 0 = some [u] := fun R => (look_left l5).trans k5
    have e0 : Zz.look ((H2 : Hp).set 5 (some ⟨0, [u2]⟩)) 0 0 = some (icells (remL (hermF rows) (fwdF rows).js v i)) := (look_of_get (List.getElem?_set_ne (by decide))).trans m0
    have hi6 := remL_len (h := hermF rows) (js := (fwdF rows).js) h6 i
    have hil6 : (icells (remL (hermF rows) (fwdF rows).js v i)).length = 6 := by rw [icells_len, hi6]
    have hovr : Zz.over (icells (remL (hermF rows) (fwdF rows).js v i)) 0 (icells (remL (hermF rows) (fwdF rows).js v (i + 1))) = some (icells (remL (hermF rows) (fwdF rows).js v (i + 1))) := by
     unfold Zz.over
     rw [hil6, hrl]
     simp [hil6]
    have hap2 : ∀ tch : List Tch, tch[3]? = some (.blk H.length) → apartT tch [3] (slBlk (.sref (H.length + 1) 0 0 1 1 (some 1))) := fun tch ht => apart_mk (by simp only [apartL, ht, Tch.free, and_true]; omega)
    repeat' (first | (refine WO.opE (by intro; simp (disch := omega) only [go_sem, Nat.reduceAdd, lk0, hrc]; rfl) (by simp only [pt8, pt1, pt3]; rfl) ?_) | (refine WO.specE rfl rfl (c125 _) (by simp only [pt8, pt2]; rfl) ?_) | (refine WT.append (sv := u) (xv := .sref (H.length + 1) 0 0 1 1 (some 1)) rfl rfl b1 (hap _ rfl) (hap2 _ rfl) (by simp only [pt8, pt0]; rfl) ?_) | (refine WC.seq ?_) | (refine WC.region ?_) | (refine WO.nil ?_) | (simp only [fl1, fl4]) | (refine WC.drawT ?_) | (refine WT.nil ?_) | (refine WT.free rfl (by intro; simp (disch := omega) only [go_sem, fillP, Option.bind_eq_bind, List.append_assoc, zeros, List.length_append, ov_one0, Nat.reduceAdd, lk0, hrc, n5]; rfl) rfl (by simp only [pt8, pt1, pt5, pt6]; rfl) ?_) | (refine WT.big rfl rfl (by intro; simp (disch := omega) only [go_sem, fillP, Option.bind_eq_bind, List.append_assoc, zeros, List.length_append, ov_one0, Nat.reduceAdd, lk0, hrc, n5]; rfl) (by simp (disch := omega) only [go_sem, List.length_append, Nat.reduceAdd, touch]; rfl) (by first | exact .inl rfl | exact .inr (apart_nil _) | exact .inr trivial | (right; apply apart_mk; simp only [apartL, zNA, zCA, List.getElem?_cons_succ, List.getElem?_cons_zero, Tch.free, and_true]; first | done | omega)) (by simp only [pt8, pt1, pt5, pt7]; rfl) ?_) | (refine WT.bigN rfl rfl (by intro; simp (disch := omega) only [go_sem, Option.bind_eq_bind, ov_one0, Nat.reduceAdd, hrl, m5, e0, hu2, hovr, setBlk]; rfl) (by simp (disch := omega) only [go_sem, Nat.reduceAdd, touch]; rfl) (by first | exact .inl rfl | exact .inr (apart_nil _) | exact .inr trivial | (right; apply apart_mk; simp only [apartL, zNA, zCA, List.getElem?_cons_succ, List.getElem?_cons_zero, Tch.free, and_true]; first | done | omega)) ?_) | (refine WC.no rfl ?_) | (refine WC.skip ?_) | (refine WC.block ?_))
    have hq2 : 7 < q2 := by rcases b3 with rfl | rfl <;> omega
    have kp : ∀ p c, p ≤ 7 → p ≠ 5 → p ≠ 0 → Zz.look H p 0 = some c → Zz.look (((H2 : Hp).set 5 (some ⟨0, [u2]⟩)).set 0 (some ⟨0, icells (remL (hermF rows) (fwdF rows).js v (i + 1))⟩)) p 0 = some c := fun p c hp h5 h0 hc =>
     (look_of_get ((List.getElem?_set_ne (Ne.symm h0)).trans (List.getElem?_set_ne (Ne.symm h5)))).trans (keep p c hp hc)
    refine ⟨trivial, .inl ⟨trivial, .inl ⟨trivial, trivial, look_set (look_lt e0), kp 1 _ (by decide) (by decide) (by decide) k1, kp 2 _ (by decide) (by decide) (by decide) k2, kp 3 _ (by decide) (by decide) (by decide) k3, ⟨u2, q2, (look_of_get (List.getElem?_set_ne (by decide))).trans (look_set (look_lt m5)), hq2, gs_keep b2 (.inr ((List.getElem?_set_ne (by omega)).trans (List.getElem?_set_ne (by omega))))⟩, kp 6 _ (by decide) (by decide) (by decide) k6, kp 7 _ (by decide) (by decide) (by decide) k7, hb, fun k hk => ?_⟩⟩⟩
    by_cases hki : k = i
    ·subst hki; exact hb
    ·exact hos k (by omega)
   ·rw [decide_eq_false hb] at c125
    have n1 : ∀ R, Zz.look (H ++ R) 1 0 = some (icells zer6) := fun R => (look_left l1).trans k1
    have n2 : ∀ R, Zz.look (H ++ R) 2 0 = some [.snil] := fun R => (look_left l2).trans k2
    have n2x : ∀ R x, Zz.look ((H ++ R : Hp).set 1 x) 2 0 = some [.snil] := fun R x => (look_of_get (List.getElem?_set_ne (by decide))).trans (n2 R)
    have n3x : ∀ R x y, Zz.look (((H ++ R : Hp).set 1 x).set 2 y) 3 0 = some [.int .i64 0] := fun R x y => (look_of_get ((List.getElem?_set_ne (by decide)).trans (List.getElem?_set_ne (by decide)))).trans ((look_left l3).trans k3)
    have n3 : ∀ R, Zz.look (H ++ R) 3 0 = some [.int .i64 0] := fun R => (look_left l3).trans k3
    repeat' (first | (refine WO.opE (by intro; simp (disch := omega) only [go_sem, fillP, Nat.reduceAdd, lk0, hrc]; rfl) (by simp only [pt8, pt1, pt3, pt4]; rfl) ?_) | (refine WO.opN (by intro; simp (disch := omega) only [go_sem, Option.bind_eq_bind, ov_one0, Nat.reduceAdd, n1, n2x, n3x, setBlk]; rfl) ?_) | (refine WO.specE rfl rfl (c125 _) (by simp only [pt8, pt2]; rfl) ?_) | (refine WC.seq ?_) | (refine WC.region ?_) | (refine WO.nil ?_) | (simp only [fl1, fl2, fl5]) | (refine WC.yes rfl ?_) | (refine WC.ret ?_) | (refine WC.block ?_))
    refine ⟨by first | trivial | exact hL1.symm, .inr ⟨by first | trivial | simp, .inr ⟨by first | trivial | rfl, ?_⟩⟩⟩
    subst hL1
    refine ⟨_, rfl, rfl, ?_, ?_, ?_, fun h => hb (h i hi)⟩
    ·exact (look_of_get ((List.getElem?_set_ne (by decide)).trans (List.getElem?_set_ne (by decide)))).trans (look_set (look_lt (n1 _)))
    ·exact (look_of_get (List.getElem?_set_ne (by decide))).trans (look_set (look_lt (n2x _ _)))
    ·exact look_set (look_lt (n3x _ _ _))
  ·rintro w ⟨G, L2⟩ (⟨rfl, k0, k1, k2, k3, ⟨u, q, k5, hq, hg⟩, k6, k7, ho, hos⟩ | ⟨r, hr1, hr2, k1, k2, k3, hn⟩)
   ·refine ⟨_, rfl, .inl ⟨rfl, rfl, ?_⟩⟩
    dsimp only at k0 k1 k2 k3 k5 k6 k7 hg
    have hr6 := remL_len (h := hermF rows) (js := (fwdF rows).js) h6 (hermF rows).length
    have hrc := icells_cut hr6
    have hrl : (icells (remL (hermF rows) (fwdF rows).js v (hermF rows).length)).length = 6 := by rw [icells_len, hr6]
    have hov := fun x0 x1 x2 x3 x4 x5 => icells_over6 hr6 (x0 := x0) (x1 := x1) (x2 := x2) (x3 := x3) (x4 := x4) (x5 := x5)
    have huc : u.cells = some [u] := by
     rcases hg with ⟨rfl, _⟩ | ⟨g, rfl, _⟩ | ⟨g, n, rfl, _⟩ <;> rfl
    unfold AV.cells at huc
    have z6 : icells zer6 = [.int .i64 0, .int .i64 0, .int .i64 0, .int .i64 0, .int .i64 0, .int .i64 0] := rfl
    have n2 : ∀ x, Zz.look ((G : Hp).set 1 x) 2 0 = some [.snil] := fun x => (look_of_get (List.getElem?_set_ne (by decide))).trans k2
    have n3 : ∀ x y, Zz.look (((G : Hp).set 1 x).set 2 y) 3 0 = some [.int .i64 0] := fun x y => (look_of_get ((List.getElem?_set_ne (by decide)).trans (List.getElem?_set_ne (by decide)))).trans k3
    rw [z6] at k1
    repeat' (first | (refine WC.seq ?_) | (simp only [fl1]) | (refine WC.drawT ?_) | (refine WT.nil ?_) | (refine WT.big rfl rfl (by intro; simp (disch := omega) only [go_sem, Nat.reduceAdd, k0, k5, hrc]; rfl) (by simp (disch := omega) only [go_sem, Nat.reduceAdd, touch]; rfl) (by first | exact .inl rfl | exact .inr (apart_nil _) | exact .inr trivial | (right; apply apart_mk; simp only [apartL, zNA, zCA, List.getElem?_cons_succ, List.getElem?_cons_zero, Tch.free, and_true, true_and]; first | done | omega)) (by simp only [pt8, pt2, pt3]; rfl) ?_) | (refine WT.bigN rfl rfl (by intro; simp (disch := omega) only [go_sem, Option.bind_eq_bind, ov_one0, Nat.reduceAdd, k1, n2, n3, hrl, hov, huc, setBlk]; rfl) (by simp (disch := omega) only [go_sem, Nat.reduceAdd, touch]; rfl) (by first | exact .inl rfl | exact .inr (apart_nil _) | exact .inr trivial | (right; apply apart_mk; simp only [apartL, zNA, zCA, List.getElem?_cons_succ, List.getElem?_cons_zero, Tch.free, and_true]; first | done | omega)) ?_) | (refine WC.ret ?_))
    have hdo : divOk (hermF rows) (fwdF rows).js v := hos
    have eE : errD rows v = 0 := by rw [errD, if_pos hA, if_pos hdo]
    have eR : remD rows v = remL (hermF rows) (fwdF rows).js v (hermF rows).length := if_pos ⟨hA, hdo⟩
    have eQ : quoD rows v = quosL (hermF rows) (fwdF rows).js v (hermF rows).length := if_pos ⟨hA, hdo⟩
    rw [eE, eR, eQ]
    generalize hrr : icells (remL (hermF rows) (fwdF rows).js v (hermF rows).length) = rr at *
    have r1 : Zz.look ((((G : Hp).set 1 (some ⟨0, rr⟩)).set 2 (some ⟨0, [u]⟩)).set 3 (some ⟨0, [.int .i64 0]⟩)) 1 0 = some rr := (look_of_get ((List.getElem?_set_ne (by decide)).trans (List.getElem?_set_ne (by decide)))).trans (look_set (look_lt k1))
    have r2 : Zz.look ((((G : Hp).set 1 (some ⟨0, rr⟩)).set 2 (some ⟨0, [u]⟩)).set 3 (some ⟨0, [.int .i64 0]⟩)) 2 0 = some [u] := (look_of_get (List.getElem?_set_ne (by decide))).trans (look_set (look_lt (n2 _)))
    have r3 : Zz.look ((((G : Hp).set 1 (some ⟨0, rr⟩)).set 2 (some ⟨0, [u]⟩)).set 3 (some ⟨0, [.int .i64 0]⟩)) 3 0 = some [.int .i64 0] := look_set (look_lt (n3 _ _))
    exact ⟨_, by simp only [evRes, gt4, gt5, gt6, loadCs, r1, r2, r3, hrc, if_true, Bool.false_eq_true, if_false, List.getElem?_cons_zero, Option.bind_some, Option.map_some]; rfl, u, q, rfl, gs_keep hg (.inr ((List.getElem?_set_ne (by omega)).trans ((List.getElem?_set_ne (by omega)).trans (List.getElem?_set_ne (by omega)))))⟩
   ·have hr1' : L2 = [some r] := hr1
    subst hr1'
    refine ⟨_, rfl, .inr ⟨_, hr2, ?_⟩⟩
    dsimp only at k1 k2 k3
    repeat' (first | (simp only [fl2, fl5]))
    have eE : errD rows v = 3 := by rw [errD, if_pos hA, if_neg hn]
    have hC : ¬ DivC rows v := fun h => hn h.2
    have eR : remD rows v = zer6 := if_neg hC
    have eQ : quoD rows v = [] := if_neg hC
    have hrc : Zz.cut (icells zer6) 0 6 = some (icells zer6) := icells_cut rfl
    rw [eE, eR, eQ]
    exact ⟨_, by simp only [evRes, gt4, gt5, gt6, loadCs, k1, k2, k3, hrc, if_true, Bool.false_eq_true, if_false, List.getElem?_cons_zero, Option.bind_some, Option.map_some]; rfl, .snil, 0, rfl, GS.nil⟩
 ·have eC : errD rows v = 1 := if_neg hA
  have hC : ¬ DivC rows v := fun h => hA h.1
  have eR : remD rows v = zer6 := if_neg hC
  have eQ : quoD rows v = [] := if_neg hC
  rw [eC, eR, eQ]
  by_cases hv : VM rows
  ·have hok : decide (okB 1000000000 v) = false := decide_eq_false fun h => hA ⟨hv, h⟩
   rw [hok] at c125
   have e0 : errC rows = 0 := if_pos hv
   rw [e0] at c122
   refine WF.fnE rfl (fn_of Try.func118 cir118) (by show 2 ≤ 44; decide) ?_
   unfold ir118
   simp only [padTo, List.replicate, zNA, zAN]
   repeat' (first | (refine WO.yes rfl ?_) | (refine WO.opE (by intro; simp (disch := omega) only [go_sem, Zz.look, zCA, zNA, fillP, Nat.reduceAdd, hcv]; rfl) (by simp only [pt8, pt0, pt1, pt2, pt3, pt4, pt5, pt6, pt7]; rfl) ?_) | (refine WO.opN (by intro; simp (disch := omega) only [go_sem, Zz.look, Option.bind_eq_bind, ov_one0, ov_all2, Nat.reduceAdd, setBlk, List.set_cons_zero, List.set_cons_succ]; rfl) ?_) | (refine WO.specE rfl rfl (c122 _) (by simp only [pt8, pt7]; rfl) ?_) | (refine WO.specE rfl rfl (c125 _) (by simp only [pt8, pt6]; rfl) ?_) | (refine WC.seq ?_) | (refine WC.region ?_) | (refine WO.nil ?_) | (simp only [fl1, fl2]) | (refine WC.yes rfl ?_) | (refine WC.ret ?_))
   exact ⟨_, rfl, .snil, 0, rfl, GS.nil⟩
  ·have e0 : errC rows = 1 := if_neg hv
   rw [e0] at c122
   refine WF.fnE rfl (fn_of Try.func118 cir118) (by show 2 ≤ 44; decide) ?_
   unfold ir118
   simp only [padTo, List.replicate, zNA, zAN]
   repeat' (first | (refine WO.noE rfl (by simp only [pt8, pt5, pt6, pt7]; rfl) ?_) | (refine WO.opE (by intro; simp (disch := omega) only [go_sem, zCA, zNA, fillP, Nat.reduceAdd]; rfl) (by simp only [pt8, pt0, pt1, pt2, pt3, pt4, pt5, pt6, pt7]; rfl) ?_) | (refine WO.opN (by intro; simp (disch := omega) only [go_sem, Zz.look, Option.bind_eq_bind, ov_one0, ov_all2, Nat.reduceAdd, setBlk, List.set_cons_zero, List.set_cons_succ]; rfl) ?_) | (refine WO.specE rfl rfl (c122 _) (by simp only [pt8, pt7]; rfl) ?_) | (refine WC.seq ?_) | (refine WC.region ?_) | (refine WO.nil ?_) | (simp only [fl1, fl2]) | (refine WC.yes rfl ?_) | (refine WC.ret ?_))
   exact ⟨_, rfl, .snil, 0, rfl, GS.nil⟩
set_option maxRecDepth 100000
set_option maxHeartbeats 8000000
theorem remD_len (rows : List (List Int)) {v : List Int} (h6 : v.length = 6) : (remD rows v).length = 6 := by
 unfold remD
 split
 ·exact remL_len h6 _
 ·rfl
theorem res3 {H : Hp} {a b c a' b' c' : AV} (ha : Zz.resA H a = some a') (hb : Zz.resA H b = some b') (hc : Zz.resA H c = some c') : Zz.resV H (.tuple [a, b, c]) = some (.tuple [a', b', c']) := by
 simp only [Zz.resV, Zz.resT, ha, hb, hc]
theorem s118 {l : AV} {rows : List (List Int)} (hl : RwL l rows) (hmax : rows.length < 9223372036854775807) {v : List Int} (h6 : v.length = 6) :
  ∃ x, IntS x (quoD rows v) ∧ ∀ m, borrowE M4 118 [l, .agg (icells v)] m = some (.tuple [.agg (icells (remD rows v)), x, .int .i64 (errD rows v)], m) := by
 obtain ⟨n, y, m', h1, u, q, rfl, h2⟩ := (f118 hl hmax h6).ex
 obtain ⟨x, hx, hrx⟩ := GS.ints h2
 refine ⟨x, hx, fun m => borrowE_of (pures_cons hl.pureA (pures_cons (pureI v) rfl)) ⟨⟨n, _, m', h1, ?_⟩⟩⟩
 exact res3 (by simp only [Zz.resA, resA_icells]) hrx rfl
noncomputable def M5 : Env := M4.put 118 (borrowE M4 118)
theorem M5_ok : EnvOk Try.prog M5 := Env.put_ok M4_ok (borrowE_ok M4_ok (callable Try.func118 (by kernel_rfl)))
def memD (rows : List (List Int)) (v : List Int) : Prop := errD rows v = 0 ∧ remD rows v = zer6
instance (rows : List (List Int)) (v : List Int) : Decidable (memD rows v) := by unfold memD; infer_instance
theorem f66 {l : AV} {rows : List (List Int)} (hl : RwL l rows) (hmax : rows.length < 9223372036854775807) {v : List Int} (h6 : v.length = 6) :
  ∃ x, IntS x (if memD rows v then quoD rows v else []) ∧ WF M5 (.func 66 [] []) [l, .agg (icells v)] ⟨[], []⟩ fun y m' => y = .tuple [x, .bool (decide (memD rows v)), .int .i64 (errD rows v)] := by
 obtain ⟨xq, hxq, c118⟩ := s118 hl hmax h6
 have hcv := icells_cut h6
 have hml : (icells v).length = 6 := by rw [icells_len, h6]
 have r6 := remD_len rows h6
 have hcr := icells_cut r6
 have hrl : (icells (remD rows v)).length = 6 := by rw [icells_len, r6]
 have hov := fun x0 x1 x2 x3 x4 x5 => icells_over6 r6 (x0 := x0) (x1 := x1) (x2 := x2) (x3 := x3) (x4 := x4) (x5 := x5)
 have hce := cellsEq_int (r := remD rows v) (r' := zer6) (by rw [r6]; rfl)
 rw [r6] at hce
 have hce' : cellsEq [true, true, true, true, true, true] (icells (remD rows v)) [.int .i64 0, .int .i64 0, .int .i64 0, .int .i64 0, .int .i64 0, .int .i64 0] = some (decide (remD rows v = zer6)) := hce
 by_cases he : errD rows v = 0
 ·have hm : decide (memD rows v) = decide (remD rows v = zer6) := by
   rw [decide_eq_decide]
   exact ⟨fun h => h.2, fun h => ⟨he, h⟩⟩
  by_cases hr : remD rows v = zer6
  ·have hmm : memD rows v := ⟨he, hr⟩
   rw [decide_eq_true hmm, if_pos hmm]
   rw [decide_eq_true hr] at hce'
   rw [he] at c118 ⊢
   refine ⟨xq, hxq, ?_⟩
   have hxc := hxq.cells
   unfold AV.cells at hxc
   refine WF.fnE rfl (fn_of Try.func66 cir66) (by show 2 ≤ 26; decide) ?_
   unfold ir66
   simp only [padTo, List.replicate, zNA, zAN]
   repeat' (first | (refine WO.yes rfl ?_) | (refine WO.opE (by intro; simp (disch := omega) only [go_sem, Zz.look, zCA, zNA, fillP, hcv, hcr, hce']; rfl) (by simp only [pt8, pt0, pt1, pt2, pt3, pt4, pt5, pt6, pt7]; rfl) ?_) | (refine WO.opN (by intro; simp (disch := omega) only [go_sem, Zz.look, Option.bind_eq_bind, hrl, hov]; rfl) ?_) | (refine WO.specE rfl rfl (c118 _) (by simp only [pt8, pt5]; rfl) ?_) | (refine WC.seq ?_) | (refine WC.region ?_) | (refine WO.nil ?_) | (simp only [fl1]) | (refine WC.no rfl ?_) | (refine WC.skip ?_) | (refine WC.ret ?_))
   exact ⟨_, rfl, rfl⟩
  ·have hmm : ¬ memD rows v := fun h => hr h.2
   rw [decide_eq_false hmm, if_neg hmm]
   rw [decide_eq_false hr] at hce'
   rw [he] at c118 ⊢
   refine ⟨.snil, IntS.nil, ?_⟩
   refine WF.fnE rfl (fn_of Try.func66 cir66) (by show 2 ≤ 26; decide) ?_
   unfold ir66
   simp only [padTo, List.replicate, zNA, zAN]
   repeat' (first | (refine WO.yes rfl ?_) | (refine WO.opE (by intro; simp (disch := omega) only [go_sem, Zz.look, zCA, zNA, fillP, hcv, hcr, hce']; rfl) (by simp only [pt8, pt0, pt1, pt2, pt3, pt4, pt5, pt6, pt7]; rfl) ?_) | (refine WO.opN (by intro; simp (disch := omega) only [go_sem, Zz.look, Option.bind_eq_bind, hrl, hov]; rfl) ?_) | (refine WO.specE rfl rfl (c118 _) (by simp only [pt8, pt5]; rfl) ?_) | (refine WC.seq ?_) | (refine WC.region ?_) | (refine WO.nil ?_) | (simp only [fl1, fl2]) | (refine WC.yes rfl ?_) | (refine WC.ret ?_))
   exact ⟨_, rfl, rfl⟩
 ·have hmm : ¬ memD rows v := fun h => he h.1
  rw [decide_eq_false hmm, if_neg hmm]
  refine ⟨.snil, IntS.nil, ?_⟩
  generalize errD rows v = e at *
  refine WF.fnE rfl (fn_of Try.func66 cir66) (by show 2 ≤ 26; decide) ?_
  unfold ir66
  simp only [padTo, List.replicate, zNA, zAN]
  repeat' (first | (refine WO.noE rfl (by simp only [pt8, pt4, pt5, pt6]; rfl) ?_) | (refine WO.opE (by intro; simp (disch := omega) only [go_sem, Zz.look, zCA, zNA, hcv]; rfl) (by simp only [pt8, pt0, pt1, pt2, pt3, pt4, pt5, pt6, pt7]; rfl) ?_) | (refine WO.opN (by intro; simp (disch := omega) only [go_sem, Zz.look, Option.bind_eq_bind, hrl, hov]; rfl) ?_) | (refine WO.specE rfl rfl (c118 _) (by simp only [pt8, pt5]; rfl) ?_) | (refine WC.seq ?_) | (refine WC.region ?_) | (refine WO.nil ?_) | (simp only [fl1, fl2]) | (refine WC.yes rfl ?_) | (refine WC.ret ?_) | (refine WO.em2 rfl (by intro hp; simp only [hp]; rfl) (by intro hp; simp only [hp, decide_false]; rfl) (fun hp => ?_) (fun hp => ?_) <;> try (exfalso; first | omega | contradiction)))
  exact ⟨_, rfl, rfl⟩
noncomputable def M6 : Env := M5.put 66 (borrowE M5 66)
theorem f68 {l : AV} {rows : List (List Int)} (hl : RwL l rows) (hmax : rows.length < 9223372036854775807) {v : List Int} (h6 : v.length = 6) :
  WF M5 (.func 68 [] []) [l, .agg (icells v)] ⟨[], []⟩ fun y m' => y = .tuple [.agg (icells (remD rows v)), .int .i64 (errD rows v)] := by
 obtain ⟨xq, hxq, c118⟩ := s118 hl hmax h6
 have hcv := icells_cut h6
 have hml : (icells v).length = 6 := by rw [icells_len, h6]
 have r6 := remD_len rows h6
 have hcr := icells_cut r6
 have hrl : (icells (remD rows v)).length = 6 := by rw [icells_len, r6]
 have hov := fun x0 x1 x2 x3 x4 x5 => icells_over6 r6 (x0 := x0) (x1 := x1) (x2 := x2) (x3 := x3) (x4 := x4) (x5 := x5)
 refine WF.fnE rfl (fn_of Try.func68 cir68) (by show 2 ≤ 18; decide) ?_
 unfold ir68
 simp only [padTo, List.replicate, zNA, zAN]
 repeat' (first | (refine WO.opE (by intro; simp (disch := omega) only [go_sem, Zz.look, zCA, zNA, Nat.reduceAdd, hcv, hcr]; rfl) (by simp only [pt8, pt0, pt1, pt2, pt3, pt4, pt5, pt6, pt7]; rfl) ?_) | (refine WO.opN (by intro; simp (disch := omega) only [go_sem, Zz.look, Option.bind_eq_bind, hrl, hov, setBlk, List.set_cons_zero, List.set_cons_succ]; rfl) ?_) | (refine WO.specE rfl rfl (c118 _) (by simp only [pt8, pt4]; rfl) ?_) | (refine WC.seq ?_) | (refine WC.region ?_) | (refine WO.nil ?_) | (simp only [fl1]) | (refine WC.ret ?_))
 exact ⟨_, by simp only [evRes, gt4, gt5, loadCs, Zz.look, List.getElem?_cons_zero, List.getElem?_cons_succ, hcr, if_true, Option.bind_some, Option.map_some]; rfl, rfl⟩
theorem x68 {l l' : AV} {rows : List (List Int)} (hl : RwL l rows) (hmax : rows.length < 9223372036854775807) {v : List Int} (h6 : v.length = 6) {m : Mem} (h0 : Zz.byVal m.heap l' = some l) :
  borrowX M5 68 [l', .agg (icells v)] m = some (.tuple [.agg (icells (remD rows v)), .int .i64 (errD rows v)], m) :=
 borrowX_of (byVals_cons h0 (byVals_cons (byI _ _) rfl)) ((f68 hl hmax h6).mono fun y m' h => by
  rw [h]
  simp only [Zz.newV, Zz.newT, newI6]
  rfl)
noncomputable def M7 : Env := M6.put 68 (borrowX M5 68)
end Go.Proofs.Ytnilimjkibimcaa

