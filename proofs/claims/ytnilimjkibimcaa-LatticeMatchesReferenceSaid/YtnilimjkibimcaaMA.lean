import Derived.Test.YtnilimjkibimcaaAbsI
import Derived.Test.YtnilimjkibimcaaEx
import Derived.Test.YtnilimjkibimcaaIrM

set_option linter.unusedSimpArgs false
set_option linter.unusedVariables false

namespace Go.Proofs.Ytnilimjkibimcaa
open Go.Zz
set_option maxRecDepth 100000
set_option maxHeartbeats 4000000
noncomputable def G0 : Env := { fn := fun g => (Try.prog.funcs[g]?).bind (cFunc Try.prog), spec := fun _ => none }
theorem G0_ok : EnvOk Try.prog G0 := by
 refine ⟨fun g ifn h => ?_, fun g S h => by cases h⟩
 simp only [G0, Option.bind_eq_some_iff] at h
 exact h
theorem fn_of {g : Nat} {f : Func} {i : IFunc} (hf : Try.prog.funcs[g]? = some f) (hc : cFunc Try.prog f = some i) : G0.fn g = some i := by
 simp only [G0, hf, Option.bind_some, hc]
theorem callable {g : Nat} {f : Func} (hf : Try.prog.funcs[g]? = some f) (h : (f.name != "runtime.NumGoroutine" && f.body.isSome) = true) : Callable Try.prog g := by
 simp only [Bool.and_eq_true, bne_iff_ne, ne_eq] at h
 exact ⟨f, hf, h.1, h.2⟩
def icells (r : List Int) : List AV := r.map (.int .i64)
def RwL (x : AV) (rows : List (List Int)) : Prop := SL 6 x (rows.map icells)
theorem RwL.len {x : AV} {rows : List (List Int)} (h : RwL x rows) : slen x = some rows.length := by
 have := SL.len h
 rwa [List.length_map] at this
def rw_ (rows : List (List Int)) (i : Nat) : List Int := rows.getD i []
theorem rw_lt {rows : List (List Int)} {i : Nat} (h : i < rows.length) : rw_ rows i = rows[i] := by simp [rw_, h]
theorem RwL.six {x : AV} {rows : List (List Int)} (h : RwL x rows) {i : Nat} (hi : i < rows.length) : (rw_ rows i).length = 6 := by
 have := h.1 (icells (rw_ rows i)) (by rw [rw_lt hi]; exact List.mem_map_of_mem (List.getElem_mem hi))
 simpa [icells] using this
def tailr (rows : List (List Int)) (i : Nat) : List AV := ((rows.map icells).drop (i + 1)).flatten
theorem RwL.at {x : AV} {rows : List (List Int)} (h : RwL x rows) {i : Nat} (hi : i < rows.length) : indexAddrAV 6 x (.int .i64 (i : Int)) = some (.pval ((rw_ rows i).map (AV.int .i64) ++ tailr rows i)) := by
 have := SL.at h (i := i) (by simpa using hi)
 rw [this, rw_lt hi]
 simp [icells, tailr]
theorem RwL.byVal {x : AV} {rows : List (List Int)} (h : RwL x rows) (H : Hp) : Zz.byVal H x = some x := SL.byVal h (fun c hc => by
 obtain ⟨r, _, rfl⟩ := List.mem_map.1 hc
 simp [icells, flatAV]) H
theorem RwL.pureC {x : AV} {rows : List (List Int)} (h : RwL x rows) : Zz.pureC x = true := by
 have := h.byVal []
 obtain ⟨_, ⟨rfl, _⟩ | ⟨f, rfl⟩⟩ := h
 ·rfl
 ·simp only [Zz.byVal, Zz.byC] at this
  split at this
  ·assumption
  ·cases this
theorem RwL.pureA {x : AV} {rows : List (List Int)} (h : RwL x rows) : Zz.pureA x = true := by
 have := h.pureC
 obtain ⟨_, ⟨rfl, _⟩ | ⟨f, rfl⟩⟩ := h <;> exact this
theorem cut_row {r : List Int} {t : List AV} (h : r.length = 6) : Zz.cut (r.map (AV.int .i64) ++ t) 0 6 = some (r.map (.int .i64)) := by
 unfold Zz.cut
 rw [if_pos (by simp; omega), List.drop_zero, List.take_left' (by simpa using h)]
theorem cut_row0 {r : List Int} (h : r.length = 6) : Zz.cut (r.map (AV.int .i64)) 0 6 = some (r.map (.int .i64)) := by
 have := cut_row (t := []) h
 rwa [List.append_nil] at this
theorem over_row {r : List Int} (h : r.length = 6) {x0 x1 x2 x3 x4 x5 : AV} : Zz.over [x0, x1, x2, x3, x4, x5] 0 (r.map (AV.int .i64)) = some (r.map (.int .i64)) := by
 unfold Zz.over
 rw [if_pos (by simp; omega)]
 simp [h]
theorem dr_row {r : List Int} {t : List AV} {j : Nat} (hj : j < r.length) : ((r.map (AV.int .i64) ++ t).drop j)[0]? = some (.int .i64 (r.getD j 0)) := by
 rw [List.getElem?_drop, Nat.add_zero, List.getElem?_append_left (by simpa using hj), List.getElem?_map, List.getElem?_eq_getElem hj, List.getD_eq_getElem?_getD, List.getElem?_eq_getElem hj]
 rfl
def absI (x : Int) : Int := if x < 0 then -x else x
def psum (r : List Int) (j : Nat) : Int := ((r.take j).map absI).sum
theorem psum_succ {r : List Int} {j : Nat} (h : j < r.length) : psum r (j + 1) = psum r j + absI (r.getD j 0) := by
 unfold psum
 rw [List.take_add_one, List.getD_eq_getElem?_getD, List.getElem?_eq_getElem h]
 show ((r.take j ++ [r[j]]).map absI).sum = _
 rw [List.map_append, List.sum_append]
 simp
def rsum (r : List Int) : Int := psum r 6
def volN (rows : List (List Int)) : Nat → Int
 | 0 => 1
 | i + 1 => volN rows i * max (rsum (rw_ rows i)) 1
def okE (r : List Int) : Prop := ∀ j, j < 6 → -1000000000 ≤ r.getD j 0 ∧ r.getD j 0 ≤ 1000000000
def VM (rows : List (List Int)) : Prop := rows.length ≤ 8 ∧ (∀ i, i < rows.length → okE (rw_ rows i)) ∧ volN rows rows.length ≤ 1000000000
instance (r : List Int) : Decidable (okE r) := by unfold okE; infer_instance
instance (rows : List (List Int)) : Decidable (VM rows) := by unfold VM; infer_instance
theorem absI_nn (x : Int) : 0 ≤ absI x := by unfold absI; split <;> omega
theorem psum_nn {r : List Int} : ∀ j, 0 ≤ psum r j
 | 0 => by simp [psum]
 | j + 1 => by
  have ih := psum_nn (r := r) j
  by_cases h : j < r.length
  ·have := absI_nn (r.getD j 0)
   rw [psum_succ h]
   omega
  ·have e : psum r (j + 1) = psum r j := by
    unfold psum
    rw [List.take_of_length_le (by omega), List.take_of_length_le (by omega)]
   rw [e]
   exact ih
theorem volN_pos {rows : List (List Int)} : ∀ i, 1 ≤ volN rows i
 | 0 => by simp [volN]
 | i + 1 => by
  have ih := volN_pos (rows := rows) i
  have h : 1 ≤ max (rsum (rw_ rows i)) 1 := by omega
  have := Int.mul_le_mul ih h (by omega) (by omega)
  unfold volN
  omega
theorem volN_step {rows : List (List Int)} (i : Nat) : volN rows i ≤ volN rows (i + 1) := by
 have h0 := volN_pos (rows := rows) i
 have h : 1 ≤ max (rsum (rw_ rows i)) 1 := by omega
 have := Int.mul_le_mul_of_nonneg_left h (show 0 ≤ volN rows i by omega)
 rw [Int.mul_one] at this
 exact this
theorem volN_mono {rows : List (List Int)} {i k : Nat} (h : i ≤ k) : volN rows i ≤ volN rows k := by
 induction h with
 | refl => exact Int.le_refl _
 | step _ ih => exact Int.le_trans ih (volN_step _)
theorem mul_bnd {a b A B : Int} (h1 : 0 ≤ a) (h2 : a ≤ A) (h3 : -B ≤ b) (h4 : b ≤ B) : -(A * B) ≤ a * b ∧ a * b ≤ A * B := by
 have hB : 0 ≤ B := by omega
 have e1 := Int.mul_le_mul_of_nonneg_left h4 h1
 have e2 := Int.mul_le_mul_of_nonneg_right h2 hB
 have e3 := Int.mul_le_mul_of_nonneg_left h3 h1
 have e4 : a * -B = -(a * B) := Int.mul_neg a B
 omega
theorem f81 {x : Int} (h : -9223372036854775807 ≤ x ∧ x ≤ 9223372036854775807) : WF G0 (.func 81 [] []) [.int .i64 x] ⟨[], []⟩ fun y m' => y = .int .i64 (absI x) := by
 refine WF.fnE rfl (fn_of Try.func81 cir81) (by show 1 ≤ 8; decide) ?_
 unfold ir81
 simp only [padTo, List.replicate, zNA, zAN]
 repeat' (first | (refine WO.opE (by intro; simp (disch := omega) only [go_sem, Int.zero_sub]; rfl) (by simp only [pt2, pt3, pt4, pt5, pt6, pt7]; rfl) ?_) | (refine WC.seq ?_) | (refine WC.region ?_) | (refine WO.nil ?_) | (simp only [fl1, fl2]) | (refine WC.skip ?_) | (refine WC.ret ?_) | (refine WC.em2 rfl (fun hp => ?_) (fun hp => ?_) <;> try (exfalso; first | omega | contradiction)))
 all_goals
  refine ⟨_, rfl, ?_⟩
  simp only [oneRes, gt2]
  unfold absI
  first | rw [if_pos (by assumption)] | rw [if_neg (by assumption)]
theorem s81 {x : Int} (h : -9223372036854775807 ≤ x ∧ x ≤ 9223372036854775807) {m : Mem} : borrowE G0 81 [.int .i64 x] m = some (.int .i64 (absI x), m) := borrowE_of rfl ((f81 h).mono fun y m' h => by rw [h]; rfl)
noncomputable def E1 : Env := G0.put 81 (borrowE G0 81)
theorem E1_ok : EnvOk Try.prog E1 := Env.put_ok G0_ok (borrowE_ok G0_ok (callable Try.func81 (by kernel_rfl)))
theorem psum_bnd {r : List Int} (h : okE r) : ∀ j, j ≤ 6 → psum r j ≤ j * 1000000000
 | 0, _ => by simp [psum]
 | j + 1, hj => by
  have ih := psum_bnd h j (by omega)
  by_cases hl : j < r.length
  ·have := h j (by omega)
   rw [psum_succ hl]
   unfold absI
   split <;> omega
  ·have e : psum r (j + 1) = psum r j := by
    unfold psum
    rw [List.take_of_length_le (by omega), List.take_of_length_le (by omega)]
   rw [e]
   omega
theorem f25 {l : AV} {rows : List (List Int)} (hl : RwL l rows) (hmax : rows.length < 9223372036854775807) : WF E1 (.func 25 [] []) [l] ⟨[], []⟩ fun y m' => y = .bool (decide (VM rows)) := by
 have hlen := hl.len
 refine WF.fnE rfl (fn_of Try.func25 cir25) (by show 1 ≤ 40; decide) ?_
 unfold ir25
 simp only [padTo, List.replicate, zNA, zAN]
 repeat' (first | (refine WO.opE (by intro; simp (disch := omega) only [go_sem]; rfl) (by simp only [pt8, pt1, pt2, pt3]; rfl) ?_) | (refine WO.opE (by intro; exact ev_lenS (by simp only [go_sem]; first | rfl | assumption)) (by simp only [pt8, pt2]; rfl) ?_) | (refine WC.seq ?_) | (refine WC.region ?_) | (refine WO.nil ?_) | (simp only [fl1]) | (refine WC.block ?_))
 refine WC.loopI (fun m s => ∃ T R i, s = ⟨T, R, []⟩ ∧ T.length = 40 ∧ gt T 0 = l ∧ gt T 3 = .int .i64 (volN rows i) ∧ gt T 9 = l ∧ gt T 10 = .int .i64 (rows.length : Nat) ∧ gt T 11 = .int .i64 (i : Nat) ∧ m + i = rows.length ∧ (∀ j, j < i → okE (rw_ rows j)) ∧ volN rows i ≤ 1000000000) ?_ rows.length _ ⟨_, [], 0, rfl, rfl, rfl, rfl, rfl, rfl, rfl, by omega, fun j hj => by omega, by simp [volN]⟩
 rintro m _ ⟨T, R, i, rfl, hT, g0, g3, g9, g10, g11, hm, hi, hvol⟩
 obtain ⟨f, rfl⟩ := ex40 hT
 clear hT
 replace g0 : f 0 = l := g0
 replace g3 : f 3 = .int .i64 (volN rows i) := g3
 replace g9 : f 9 = l := g9
 replace g10 : f 10 = .int .i64 (rows.length : Nat) := g10
 replace g11 : f 11 = .int .i64 (i : Nat) := g11
 simp only [g0, g3, g9, g10, g11]
 have hvp := volN_pos (rows := rows) i
 by_cases hin : i < rows.length
 ·have h6 := hl.six hin
  have hat := hl.at hin
  have hml : ((rw_ rows i).map (AV.int .i64)).length = 6 := by rw [List.length_map, h6]
  have hcut := cut_row (t := tailr rows i) h6
  have hcut0 := cut_row0 h6
  have hov := fun x0 x1 x2 x3 x4 x5 => over_row h6 (x0 := x0) (x1 := x1) (x2 := x2) (x3 := x3) (x4 := x4) (x5 := x5)
  have hno : ¬ okE (rw_ rows i) → ¬ VM rows := fun h h' => h (h'.2.1 i hin)
  have hnv : 1000000000 < volN rows (i + 1) → ¬ VM rows := fun h h' => by
   have := volN_mono (rows := rows) (i := i + 1) (k := rows.length) (by omega)
   have := h'.2.2
   omega
  have hvs : volN rows (i + 1) = volN rows i * max (rsum (rw_ rows i)) 1 := rfl
  have hrs : rsum (rw_ rows i) = psum (rw_ rows i) 6 := rfl
  have hok : okE (rw_ rows i) ↔ ∀ j, j < 6 → -1000000000 ≤ (rw_ rows i).getD j 0 ∧ (rw_ rows i).getD j 0 ≤ 1000000000 := Iff.rfl
  repeat' (first | (refine WO.opE (by intro; simp (disch := omega) only [go_sem, hat, hcut, hcut0, lk0]; rfl) (by simp only [pt8, pt0, pt4, pt5, pt6, pt7]; rfl) ?_) | (refine WO.opN (by intro; simp (disch := omega) only [go_sem, hov, hml, lk0, st0]; rfl) ?_) | (refine WC.seq ?_) | (refine WC.region ?_) | (refine WO.nil ?_) | (simp only [fl1]) | (refine WC.skip ?_) | (refine WC.block ?_) | (refine WC.em2 rfl (fun hp => ?_) (fun hp => ?_) <;> try (exfalso; first | omega | contradiction)))
  refine WC.loopI (fun m1 s => ∃ T R j, s = ⟨T, R, []⟩ ∧ T.length = 40 ∧ gt T 0 = l ∧ gt T 3 = .int .i64 (volN rows i) ∧ gt T 9 = l ∧ gt T 10 = .int .i64 (rows.length : Nat) ∧ gt T 11 = .int .i64 (i : Nat) ∧ gt T 6 = .int .i64 (psum (rw_ rows i) j) ∧ gt T 15 = .agg ((rw_ rows i).map (.int .i64)) ∧ gt T 16 = .int .i64 (j : Nat) ∧ m1 + j = 6 ∧ (∀ k, k < j → -1000000000 ≤ (rw_ rows i).getD k 0 ∧ (rw_ rows i).getD k 0 ≤ 1000000000) ∧ psum (rw_ rows i) j ≤ j * 1000000000) ?_ 6 _ ⟨_, _, 0, rfl, rfl, rfl, rfl, rfl, rfl, rfl, rfl, rfl, rfl, by omega, fun j hj => by omega, by simp [psum]⟩
  clear R f g0 g3 g9 g10 g11
  rintro m1 _ ⟨T, R, j, rfl, hT, g0, g3, g9, g10, g11, g6, g15, g16, hm1, hj, hps⟩
  obtain ⟨f, rfl⟩ := ex40 hT
  clear hT
  replace g0 : f 0 = l := g0
  replace g3 : f 3 = .int .i64 (volN rows i) := g3
  replace g9 : f 9 = l := g9
  replace g10 : f 10 = .int .i64 (rows.length : Nat) := g10
  replace g11 : f 11 = .int .i64 (i : Nat) := g11
  replace g6 : f 6 = .int .i64 (psum (rw_ rows i) j) := g6
  replace g15 : f 15 = .agg ((rw_ rows i).map (.int .i64)) := g15
  replace g16 : f 16 = .int .i64 (j : Nat) := g16
  simp only [g0, g3, g9, g10, g11, g6, g15, g16]
  have hpn := psum_nn (r := rw_ rows i) j
  by_cases hj6 : j < 6
  ·have hpsu := psum_succ (r := rw_ rows i) (j := j) (by omega)
   have hia := int_at (c := rw_ rows i) (i := j) (by omega)
   generalize hx : (rw_ rows i).getD j 0 = x at *
   by_cases hxb : -1000000000 ≤ x ∧ x ≤ 1000000000
   ·have hxb1 := hxb
    have ha : 0 ≤ absI x ∧ absI x ≤ 1000000000 := by unfold absI; split <;> omega
    repeat' (first | (refine WO.yes rfl ?_) | (refine WO.opE (by intro; simp (disch := omega) only [go_sem, Int.reduceNeg, Int.reduceAdd, hia, Nat.mul_one]; rfl) (by simp only [pt8, pt0, pt1, pt2, pt3, pt4, pt5, pt6, pt7]; rfl) ?_) | (refine WO.specE rfl rfl (s81 (by omega)) (by simp only [pt8, pt3]; rfl) ?_) | (refine WC.seq ?_) | (refine WC.region ?_) | (refine WO.nil ?_) | (simp only [fl1, fl10]) | (refine WC.skip ?_) | (refine WC.block ?_) | (refine WO.em2 rfl (by intro hp; simp only [hp, decide_true]; rfl) (by intro hp; simp only [hp, decide_false]; rfl) (fun hp => ?_) (fun hp => ?_) <;> try (exfalso; first | omega | contradiction)) | (refine WC.em2 rfl (fun hp => ?_) (fun hp => ?_) <;> try (exfalso; first | omega | contradiction)))
    exact ⟨m1 - 1, by omega, _, R, j + 1, rfl, rfl, rfl, rfl, rfl, rfl, rfl, congrArg (AV.int .i64) hpsu.symm, rfl, rfl, by omega, fun k hk => by
     by_cases e : k = j
     ·subst e; rw [hx]; exact hxb
     ·exact hj k (by omega), by omega⟩
   ·have hxb1 := hxb
    repeat' (first | (refine WO.yes rfl ?_) | (refine WO.noE rfl (by simp only [pt8, pt6, pt7]; rfl) ?_) | (refine WO.opE (by intro; simp (disch := omega) only [go_sem, Int.reduceNeg, Int.reduceAdd, hia, Nat.mul_one]; rfl) (by simp only [pt8, pt0, pt1, pt2, pt3, pt4, pt5, pt6, pt7]; rfl) ?_) | (refine WC.seq ?_) | (refine WC.region ?_) | (refine WO.nil ?_) | (simp only [fl1, fl2, fl5, fl8]) | (refine WC.yes rfl ?_) | (refine WC.skip ?_) | (refine WC.ret ?_) | (refine WC.block ?_) | (refine WO.em2 rfl (by intro hp; simp only [hp, decide_true]; rfl) (by intro hp; simp only [hp, decide_false]; rfl) (fun hp => ?_) (fun hp => ?_) <;> try (exfalso; first | omega | contradiction)) | (refine WC.em2 rfl (fun hp => ?_) (fun hp => ?_) <;> try (exfalso; first | omega | contradiction)))
    all_goals
     refine ⟨_, rfl, ?_⟩
     simp only [oneRes, gt2, AV.bool.injEq]
     symm
     rw [decide_eq_false_iff_not]
     exact hno fun h => hxb (by have := hok.1 h j hj6; rw [hx] at this; exact this)
  ·have hj6' : j = 6 := by omega
   subst hj6'
   have hoke := hok.2 hj
   rw [← hrs] at hps hpn ⊢
   have mb := mul_bnd (a := volN rows i) (A := 1000000000) (b := max (rsum (rw_ rows i)) 1) (B := 6000000000) (by omega) hvol (by omega) (by omega)
   have hvp1 := volN_pos (rows := rows) (i + 1)
   rw [← hvs] at mb
   by_cases hbig : volN rows (i + 1) ≤ 1000000000
   ·have hbig1 := hbig
    repeat' (first | (refine WO.opE (by intro; simp (disch := omega) only [go_sem, ← hvs]; rfl) (by simp only [pt8, pt0, pt1, pt2, pt3, pt4, pt6, pt7]; rfl) ?_) | (refine WC.seq ?_) | (refine WC.region ?_) | (refine WO.nil ?_) | (simp only [fl1, fl10]) | (refine WC.no rfl ?_) | (refine WC.skip ?_) | (refine WC.exit ?_) | (refine WC.em2 rfl (fun hp => ?_) (fun hp => ?_) <;> try (exfalso; first | omega | contradiction)))
    exact ⟨m - 1, by omega, _, R, i + 1, rfl, rfl, rfl, rfl, rfl, rfl, rfl, by omega, fun j hj => by
     by_cases e : j = i
     ·subst e; exact hoke
     ·exact hi j (by omega), hbig⟩
   ·have hbig1 := hbig
    repeat' (first | (refine WO.opE (by intro; simp (disch := omega) only [go_sem, ← hvs]; rfl) (by simp only [pt8, pt0, pt1, pt2, pt3, pt6, pt7]; rfl) ?_) | (refine WC.seq ?_) | (refine WC.region ?_) | (refine WO.nil ?_) | (simp only [fl1, fl2, fl5, fl8]) | (refine WC.no rfl ?_) | (refine WC.exit ?_) | (refine WC.ret ?_) | (refine WC.em2 rfl (fun hp => ?_) (fun hp => ?_) <;> try (exfalso; first | omega | contradiction)))
    refine ⟨_, rfl, ?_⟩
    simp only [oneRes, gt2, AV.bool.injEq]
    symm
    rw [decide_eq_false_iff_not]
    exact hnv (by omega)
 ·have hi' : i = rows.length := by omega
  subst hi'
  have hvm : VM rows ↔ rows.length ≤ 8 := ⟨fun h => h.1, fun h => ⟨h, hi, hvol⟩⟩
  repeat' (first | (refine WO.opE (by intro; simp (disch := omega) only [go_sem]; rfl) (by simp only [pt8, pt2, pt4, pt5, pt7]; rfl) ?_) | (refine WO.opE (by intro; exact ev_lenS (by simp only [go_sem]; first | rfl | assumption)) (by simp only [pt8, pt6]; rfl) ?_) | (refine WC.seq ?_) | (refine WC.region ?_) | (refine WO.nil ?_) | (simp only [fl1]) | (refine WC.exit ?_) | (refine WC.ret ?_) | (refine WC.em2 rfl (fun hp => ?_) (fun hp => ?_) <;> try (exfalso; first | omega | contradiction)))
  refine ⟨_, rfl, ?_⟩
  simp only [oneRes, gt2, AV.bool.injEq]
  rw [decide_eq_decide, hvm]
  omega
theorem s25 {l : AV} {rows : List (List Int)} (hl : RwL l rows) (hmax : rows.length < 9223372036854775807) {m : Mem} : borrowE E1 25 [l] m = some (.bool (decide (VM rows)), m) := borrowE_of (pures_cons hl.pureA rfl) ((f25 hl hmax).mono fun y m' h => by rw [h]; rfl)
noncomputable def E2 : Env := E1.put 25 (borrowE E1 25)
theorem E2_ok : EnvOk Try.prog E2 := Env.put_ok E1_ok (borrowE_ok E1_ok (callable Try.func25 (by kernel_rfl)))
theorem f26 {l : AV} {rows : List (List Int)} (hl : RwL l rows) (hmax : rows.length < 9223372036854775807) : WF E2 (.func 26 [] []) [l] ⟨[], []⟩ fun y m' => y = .bool (decide (VM rows)) := by
 have hlen := hl.len
 by_cases h8 : rows.length ≤ 8
 ·have h81 := h8
  refine WF.fnE rfl (fn_of Try.func26 cir26) (by show 1 ≤ 46; decide) ?_
  unfold ir26
  simp only [padTo, List.replicate, zNA, zAN]
  repeat' (first | (refine WO.opE (by intro; simp (disch := omega) only [go_sem]; rfl) (by simp only [pt8, pt0, pt2, pt3, pt4]; rfl) ?_) | (refine WO.opE (by intro; exact ev_lenS (by simp only [go_sem]; first | rfl | assumption)) (by simp only [pt8, pt1]; rfl) ?_) | (refine WC.seq ?_) | (refine WC.region ?_) | (refine WO.nil ?_) | (simp only [fl1]) | (refine WC.skip ?_) | (refine WC.block ?_) | (refine WC.em2 rfl (fun hp => ?_) (fun hp => ?_) <;> try (exfalso; first | omega | contradiction)))
  refine WC.loopI (fun m s => ∃ T i, s = ⟨T, [], []⟩ ∧ T.length = 46 ∧ gt T 0 = l ∧ gt T 3 = .int .i64 (volN rows i) ∧ gt T 4 = .int .i64 (i : Nat) ∧ m + i = rows.length ∧ (∀ j, j < i → okE (rw_ rows j)) ∧ volN rows i ≤ 1000000000) ?_ rows.length _ ⟨_, 0, rfl, rfl, rfl, rfl, rfl, by omega, fun j hj => by omega, by simp [volN]⟩
  rintro m _ ⟨T, i, rfl, hT, g0, g3, g4, hm, hi, hvol⟩
  obtain ⟨f, rfl⟩ := ex46 hT
  clear hT
  replace g0 : f 0 = l := g0
  replace g3 : f 3 = .int .i64 (volN rows i) := g3
  replace g4 : f 4 = .int .i64 (i : Nat) := g4
  simp only [g0, g3, g4]
  have hvp := volN_pos (rows := rows) i
  by_cases hin : i < rows.length
  ·have h6 := hl.six hin
   have hat := hl.at hin
   have hno : ¬ okE (rw_ rows i) → ¬ VM rows := fun h h' => h (h'.2.1 i hin)
   have hnv : 1000000000 < volN rows (i + 1) → ¬ VM rows := fun h h' => by
    have := volN_mono (rows := rows) (i := i + 1) (k := rows.length) (by omega)
    have := h'.2.2
    omega
   have hvs : volN rows (i + 1) = volN rows i * max (rsum (rw_ rows i)) 1 := rfl
   have hrs : rsum (rw_ rows i) = psum (rw_ rows i) 6 := rfl
   have hok : okE (rw_ rows i) ↔ ∀ j, j < 6 → -1000000000 ≤ (rw_ rows i).getD j 0 ∧ (rw_ rows i).getD j 0 ≤ 1000000000 := Iff.rfl
   repeat' (first | (refine WO.opE (by intro; simp (disch := omega) only [go_sem]; rfl) (by simp only [pt8, pt3, pt4, pt5, pt6]; rfl) ?_) | (refine WO.opE (by intro; exact ev_lenS (by simp only [go_sem]; first | rfl | assumption)) (by simp only [pt8, pt5]; rfl) ?_) | (refine WC.seq ?_) | (refine WC.region ?_) | (refine WO.nil ?_) | (simp only [fl1]) | (refine WC.skip ?_) | (refine WC.block ?_) | (refine WC.em2 rfl (fun hp => ?_) (fun hp => ?_) <;> try (exfalso; first | omega | contradiction)))
   refine WC.loopI (fun m1 s => ∃ T j, s = ⟨T, [], []⟩ ∧ T.length = 46 ∧ gt T 0 = l ∧ gt T 3 = .int .i64 (volN rows i) ∧ gt T 4 = .int .i64 (i : Nat) ∧ gt T 5 = .int .i64 (psum (rw_ rows i) j) ∧ gt T 6 = .int .i64 (j : Nat) ∧ m1 + j = 6 ∧ (∀ k, k < j → -1000000000 ≤ (rw_ rows i).getD k 0 ∧ (rw_ rows i).getD k 0 ≤ 1000000000) ∧ psum (rw_ rows i) j ≤ j * 1000000000) ?_ 6 _ ⟨_, 0, rfl, rfl, rfl, rfl, rfl, rfl, rfl, by omega, fun j hj => by omega, by simp [psum]⟩
   clear f g0 g3 g4
   rintro m1 _ ⟨T, j, rfl, hT, g0, g3, g4, g5, g6, hm1, hj, hps⟩
   obtain ⟨f, rfl⟩ := ex46 hT
   clear hT
   replace g0 : f 0 = l := g0
   replace g3 : f 3 = .int .i64 (volN rows i) := g3
   replace g4 : f 4 = .int .i64 (i : Nat) := g4
   replace g5 : f 5 = .int .i64 (psum (rw_ rows i) j) := g5
   replace g6 : f 6 = .int .i64 (j : Nat) := g6
   simp only [g0, g3, g4, g5, g6]
   have hpn := psum_nn (r := rw_ rows i) j
   by_cases hj6 : j < 6
   ·have hpsu := psum_succ (r := rw_ rows i) (j := j) (by omega)
    have hpt := dr_row (r := rw_ rows i) (t := tailr rows i) (j := j) (by omega)
    generalize hx : (rw_ rows i).getD j 0 = x at *
    by_cases hxb : -1000000000 ≤ x ∧ x ≤ 1000000000
    ·have hxb1 := hxb
     have ha : 0 ≤ absI x ∧ absI x ≤ 1000000000 := by unfold absI; split <;> omega
     have hmx : max x (-x) = absI x := by unfold absI; split <;> omega
     repeat' (first | (refine WO.yes rfl ?_) | (refine WO.opE (by intro; simp (disch := omega) only [go_sem, Int.reduceNeg, Int.reduceAdd, hat, hpt, hmx, Int.zero_sub, Nat.mul_one]; rfl) (by simp only [pt8, pt0, pt1, pt2, pt3, pt4, pt5, pt6, pt7]; rfl) ?_) | (refine WC.seq ?_) | (refine WC.region ?_) | (refine WO.nil ?_) | (simp only [fl1, fl10]) | (refine WC.skip ?_) | (refine WC.block ?_) | (refine WO.em2 rfl (by intro hp; simp only [hp, decide_true]; rfl) (by intro hp; simp only [hp, decide_false]; rfl) (fun hp => ?_) (fun hp => ?_) <;> try (exfalso; first | omega | contradiction)) | (refine WC.em2 rfl (fun hp => ?_) (fun hp => ?_) <;> try (exfalso; first | omega | contradiction)))
     exact ⟨m1 - 1, by omega, _, j + 1, rfl, rfl, rfl, rfl, rfl, congrArg (AV.int .i64) hpsu.symm, rfl, by omega, fun k hk => by
      by_cases e : k = j
      ·subst e; rw [hx]; exact hxb
      ·exact hj k (by omega), by omega⟩
    ·have hxb1 := hxb
     repeat' (first | (refine WO.yes rfl ?_) | (refine WO.noE rfl (by simp only [pt8, pt6, pt7]; rfl) ?_) | (refine WO.opE (by intro; simp (disch := omega) only [go_sem, Int.reduceNeg, Int.reduceAdd, hat, hpt, Nat.mul_one]; rfl) (by simp only [pt8, pt0, pt1, pt2, pt3, pt4, pt5, pt6, pt7]; rfl) ?_) | (refine WC.seq ?_) | (refine WC.region ?_) | (refine WO.nil ?_) | (simp only [fl1, fl2, fl5, fl8]) | (refine WC.yes rfl ?_) | (refine WC.skip ?_) | (refine WC.ret ?_) | (refine WC.block ?_) | (refine WO.em2 rfl (by intro hp; simp only [hp, decide_true]; rfl) (by intro hp; simp only [hp, decide_false]; rfl) (fun hp => ?_) (fun hp => ?_) <;> try (exfalso; first | omega | contradiction)) | (refine WC.em2 rfl (fun hp => ?_) (fun hp => ?_) <;> try (exfalso; first | omega | contradiction)))
     all_goals
      refine ⟨_, rfl, ?_⟩
      simp only [oneRes, gt2, AV.bool.injEq]
      symm
      rw [decide_eq_false_iff_not]
      exact hno fun h => hxb (by have := hok.1 h j hj6; rw [hx] at this; exact this)
   ·have hj6' : j = 6 := by omega
    subst hj6'
    have hoke := hok.2 hj
    rw [← hrs] at hps hpn ⊢
    have mb := mul_bnd (a := volN rows i) (A := 1000000000) (b := rsum (rw_ rows i)) (B := 6000000000) (by omega) hvol (by omega) (by omega)
    have hvp1 := volN_pos (rows := rows) (i + 1)
    by_cases hbig : volN rows (i + 1) ≤ 1000000000
    ·by_cases hz : 0 < rsum (rw_ rows i)
     ·rw [show max (rsum (rw_ rows i)) 1 = rsum (rw_ rows i) by omega] at hvs
      rw [← hvs] at mb
      have hbig1 := hbig
      repeat' (first | (refine WO.opE (by intro; simp (disch := omega) only [go_sem, ← hvs]; rfl) (by simp only [pt8, pt0, pt1, pt2, pt3, pt4, pt5, pt7]; rfl) ?_) | (refine WC.seq ?_) | (refine WC.region ?_) | (refine WO.nil ?_) | (simp only [fl1, fl10]) | (refine WC.no rfl ?_) | (refine WC.skip ?_) | (refine WC.exit ?_) | (refine WC.em2 rfl (fun hp => ?_) (fun hp => ?_) <;> try (exfalso; first | omega | contradiction)))
      exact ⟨m - 1, by omega, _, i + 1, rfl, rfl, rfl, rfl, rfl, by omega, fun j hj => by
       by_cases e : j = i
       ·subst e; exact hoke
       ·exact hi j (by omega), hbig⟩
     ·rw [show max (rsum (rw_ rows i)) 1 = 1 by omega, Int.mul_one] at hvs
      repeat' (first | (refine WO.opE (by intro; simp (disch := omega) only [go_sem]; rfl) (by simp only [pt8, pt0, pt1, pt2, pt4, pt5, pt7]; rfl) ?_) | (refine WC.seq ?_) | (refine WC.region ?_) | (refine WO.nil ?_) | (simp only [fl1, fl10]) | (refine WC.no rfl ?_) | (refine WC.skip ?_) | (refine WC.exit ?_) | (refine WC.em2 rfl (fun hp => ?_) (fun hp => ?_) <;> try (exfalso; first | omega | contradiction)))
      exact ⟨m - 1, by omega, _, i + 1, rfl, rfl, rfl, congrArg (AV.int .i64) hvs.symm, rfl, by omega, fun j hj => by
       by_cases e : j = i
       ·subst e; exact hoke
       ·exact hi j (by omega), hbig⟩
    ·by_cases hz : 0 < rsum (rw_ rows i)
     ·rw [show max (rsum (rw_ rows i)) 1 = rsum (rw_ rows i) by omega] at hvs
      rw [← hvs] at mb
      repeat' (first | (refine WO.opE (by intro; simp (disch := omega) only [go_sem, ← hvs]; rfl) (by simp only [pt8, pt0, pt1, pt2, pt3, pt4, pt5, pt7]; rfl) ?_) | (refine WC.seq ?_) | (refine WC.region ?_) | (refine WO.nil ?_) | (simp only [fl1, fl2, fl5, fl8]) | (refine WC.no rfl ?_) | (refine WC.exit ?_) | (refine WC.ret ?_) | (refine WC.em2 rfl (fun hp => ?_) (fun hp => ?_) <;> try (exfalso; first | omega | contradiction)))
      refine ⟨_, rfl, ?_⟩
      simp only [oneRes, gt2, AV.bool.injEq]
      symm
      rw [decide_eq_false_iff_not]
      exact hnv (by omega)
     ·rw [show max (rsum (rw_ rows i)) 1 = 1 by omega, Int.mul_one] at hvs
      omega
  ·have hi' : i = rows.length := by omega
   subst hi'
   have hvm : VM rows := ⟨h8, hi, hvol⟩
   repeat' (first | (refine WO.opE (by intro; simp (disch := omega) only [go_sem]; rfl) (by simp only [pt8, pt2, pt3, pt4, pt6]; rfl) ?_) | (refine WO.opE (by intro; exact ev_lenS (by simp only [go_sem]; first | rfl | assumption)) (by simp only [pt8, pt5]; rfl) ?_) | (refine WC.seq ?_) | (refine WC.region ?_) | (refine WO.nil ?_) | (simp only [fl1]) | (refine WC.exit ?_) | (refine WC.ret ?_) | (refine WC.em2 rfl (fun hp => ?_) (fun hp => ?_) <;> try (exfalso; first | omega | contradiction)))
   refine ⟨_, rfl, ?_⟩
   simp only [oneRes, gt2, AV.bool.injEq]
   symm
   rw [decide_eq_true_iff]
   exact hvm
 ·have h81 := h8
  refine WF.fnE rfl (fn_of Try.func26 cir26) (by show 1 ≤ 46; decide) ?_
  unfold ir26
  simp only [padTo, List.replicate, zNA, zAN]
  repeat' (first | (refine WO.opE (by intro; simp (disch := omega) only [go_sem]; rfl) (by simp only [pt8, pt0, pt2]; rfl) ?_) | (refine WO.opE (by intro; exact ev_lenS (by simp only [go_sem]; first | rfl | assumption)) (by simp only [pt8, pt1]; rfl) ?_) | (refine WC.seq ?_) | (refine WC.region ?_) | (refine WO.nil ?_) | (simp only [fl1, fl2]) | (refine WC.ret ?_) | (refine WC.em2 rfl (fun hp => ?_) (fun hp => ?_) <;> try (exfalso; first | omega | contradiction)))
  refine ⟨_, rfl, ?_⟩
  simp only [oneRes, gt2, AV.bool.injEq]
  symm
  rw [decide_eq_false_iff_not]
  exact fun h => h8 h.1
theorem s26 {l : AV} {rows : List (List Int)} (hl : RwL l rows) (hmax : rows.length < 9223372036854775807) {m : Mem} : borrowE E2 26 [l] m = some (.bool (decide (VM rows)), m) := borrowE_of (pures_cons hl.pureA rfl) ((f26 hl hmax).mono fun y m' h => by rw [h]; rfl)
noncomputable def E3 : Env := E2.put 26 (borrowE E2 26)
theorem E3_ok : EnvOk Try.prog E3 := Env.put_ok E2_ok (borrowE_ok E2_ok (callable Try.func26 (by kernel_rfl)))
def sg (n : Nat) : Int := if n % 2 = 0 then 1 else -1
def altS (f : Nat → Int) : Nat → Int
 | 0 => 0
 | n + 1 => altS f n + sg n * f n
theorem sg_succ (n : Nat) : sg (n + 1) = -sg n := by
 unfold sg
 by_cases h : n % 2 = 0
 ·rw [if_pos h, if_neg (by omega)]
 ·rw [if_neg h, if_pos (by omega)]; rfl
theorem sg_or (n : Nat) : sg n = 1 ∨ sg n = -1 := by unfold sg; split <;> simp
def minorF (e : Nat → Nat → Int) : List Nat → List Nat → Int
 | [], _ => 1
 | i :: is, us => altS (fun p => e i (us.getD p 0) * minorF e is (us.eraseIdx p)) us.length
def ent (rows : List (List Int)) (i j : Nat) : Int := (rw_ rows i).getD j 0
def unu : List Nat → List Bool → List Nat
 | j :: js, false :: u => j :: unu js u
 | _ :: js, true :: u => unu js u
 | [], _ => []
 | _ :: _, [] => []
def pn : List Bool → Nat → Nat
 | [], _ => 0
 | _ :: _, 0 => 0
 | false :: u, k + 1 => pn u k + 1
 | true :: u, k + 1 => pn u k
theorem pn_zero (u : List Bool) : pn u 0 = 0 := by cases u <;> rfl
theorem pn_succ : ∀ {u : List Bool} {k : Nat}, k < u.length → pn u (k + 1) = if u.getD k false = true then pn u k else pn u k + 1
 | [], _, h => by simp at h
 | false :: u, 0, _ => by simp [pn, pn_zero]
 | true :: u, 0, _ => by simp [pn, pn_zero]
 | false :: u, k + 1, h => by
  have ih := pn_succ (u := u) (k := k) (by simpa using h)
  simp only [pn, List.getD_cons_succ]
  rw [ih]
  split <;> rfl
 | true :: u, k + 1, h => by
  have ih := pn_succ (u := u) (k := k) (by simpa using h)
  simp only [pn, List.getD_cons_succ]
  rw [ih]
theorem pn_len : ∀ {js : List Nat} {u : List Bool}, js.length = u.length → pn u u.length = (unu js u).length
 | [], [], _ => rfl
 | [], _ :: _, h => by simp at h
 | _ :: _, [], h => by simp at h
 | j :: js, false :: u, h => by
  have ih := pn_len (js := js) (u := u) (by simpa using h)
  simp only [List.length_cons, pn, unu, ih]
 | j :: js, true :: u, h => by
  have ih := pn_len (js := js) (u := u) (by simpa using h)
  simp only [List.length_cons, pn, unu, ih]
theorem unu_at : ∀ {js : List Nat} {u : List Bool} {k : Nat}, js.length = u.length → k < u.length → u.getD k false = false →
  pn u k < (unu js u).length ∧ (unu js u).getD (pn u k) 0 = js.getD k 0 ∧ unu js (u.set k true) = (unu js u).eraseIdx (pn u k)
 | [], [], k, _, h, _ => by simp at h
 | [], _ :: _, _, h, _, _ => by simp at h
 | _ :: _, [], _, h, _, _ => by simp at h
 | j :: js, false :: u, 0, h, _, _ => by simp [unu, pn]
 | j :: js, true :: u, 0, _, _, h => by simp at h
 | j :: js, false :: u, k + 1, h, hk, hu => by
  obtain ⟨h1, h2, h3⟩ := unu_at (js := js) (u := u) (k := k) (by simpa using h) (by simpa using hk) (by simpa using hu)
  simp only [unu, pn, List.length_cons, List.getD_cons_succ, List.set_cons_succ, List.eraseIdx_cons_succ, h2, h3]
  exact ⟨by omega, trivial, trivial⟩
 | j :: js, true :: u, k + 1, h, hk, hu => by
  obtain ⟨h1, h2, h3⟩ := unu_at (js := js) (u := u) (k := k) (by simpa using h) (by simpa using hk) (by simpa using hu)
  simp only [unu, pn, List.getD_cons_succ, List.set_cons_succ, h2, h3]
  exact ⟨h1, trivial, trivial⟩
theorem unu_none : ∀ (js : List Nat), unu js (List.replicate js.length false) = js
 | [] => rfl
 | j :: js => by simp only [List.length_cons, List.replicate_succ, unu, unu_none js]
theorem unu_sub : ∀ (js : List Nat) (u : List Bool), (unu js u).Sublist js
 | [], u => by simp [unu]
 | j :: js, [] => by simp [unu]
 | j :: js, false :: u => (unu_sub js u).cons_cons j
 | j :: js, true :: u => (unu_sub js u).cons j
def psumF (a : Nat → Int) : Nat → Int
 | 0 => 0
 | m + 1 => psumF a m + a m
theorem sum_le {a : Nat → Int} (ha : ∀ j, 0 ≤ a j) : ∀ (m : Nat) (l : List Nat), l.Nodup → (∀ x ∈ l, x < m) → (l.map a).sum ≤ psumF a m
 | 0, l, _, h => by
  cases l with
  | nil => simp [psumF]
  | cons x l => exact absurd (h x (by simp)) (by omega)
 | m + 1, l, hn, h => by
  unfold psumF
  by_cases hm : m ∈ l
  ·obtain ⟨s, t, rfl⟩ := List.append_of_mem hm
   have hn2 : (s ++ t).Nodup := hn.sublist (List.Sublist.append_left (List.sublist_cons_self m t) s)
   have hnm : m ∉ s ++ t := by
    rw [List.nodup_append] at hn
    obtain ⟨_, h2, h3⟩ := hn
    rw [List.nodup_cons] at h2
    rw [List.mem_append]
    rintro (hs | ht)
    ·exact h3 m hs m (by simp) rfl
    ·exact h2.1 ht
   have ih := sum_le ha m (s ++ t) hn2 (fun x hx => by
    have h1 := h x (by rw [List.mem_append] at hx ⊢; rcases hx with hx | hx; exact .inl hx; exact .inr (by simp [hx]))
    have h2 : x ≠ m := fun e => hnm (e ▸ hx)
    omega)
   simp only [List.map_append, List.sum_append, List.map_cons, List.sum_cons] at ih ⊢
   omega
  ·have ih := sum_le ha m l hn (fun x hx => by
    have h1 := h x hx
    have h2 : x ≠ m := fun e => hm (e ▸ hx)
    omega)
   have := ha m
   omega
theorem rsum_eq {r : List Int} (h6 : r.length = 6) : rsum r = psumF (fun j => absI (r.getD j 0)) 6 := by
 have key : ∀ j, j ≤ 6 → psum r j = psumF (fun j => absI (r.getD j 0)) j := by
  intro j
  induction j with
  | zero => intro _; simp [psum, psumF]
  | succ j ih =>
   intro hj
   rw [psum_succ (by omega), psumF, ih (by omega)]
 exact key 6 (Nat.le_refl _)
def asum (rows : List (List Int)) (i : Nat) (us : List Nat) (n : Nat) : Int := ((us.take n).map fun j => absI (ent rows i j)).sum
theorem asum_succ {rows : List (List Int)} {i n : Nat} {us : List Nat} (h : n < us.length) : asum rows i us (n + 1) = asum rows i us n + absI (ent rows i (us.getD n 0)) := by
 unfold asum
 rw [List.take_add_one, List.getD_eq_getElem?_getD, List.getElem?_eq_getElem h]
 show ((us.take n ++ [us[n]]).map _).sum = _
 rw [List.map_append, List.sum_append]
 simp
theorem asum_le {rows : List (List Int)} {i n : Nat} {us : List Nat} (h6 : (rw_ rows i).length = 6) (hn : us.Nodup) (hb : ∀ x ∈ us, x < 6) : asum rows i us n ≤ rsum (rw_ rows i) := by
 rw [rsum_eq h6]
 exact sum_le (fun j => absI_nn _) 6 _ (hn.sublist (List.take_sublist _ _)) fun x hx => hb x (List.mem_of_mem_take hx)
theorem asum_nn {rows : List (List Int)} {i : Nat} {us : List Nat} : ∀ n, 0 ≤ asum rows i us n
 | 0 => by simp [asum]
 | n + 1 => by
  have ih := asum_nn (rows := rows) (i := i) (us := us) n
  by_cases h : n < us.length
  ·have := absI_nn (ent rows i (us.getD n 0))
   rw [asum_succ h]
   omega
  ·have e : asum rows i us (n + 1) = asum rows i us n := by
    unfold asum
    rw [List.take_of_length_le (by omega), List.take_of_length_le (by omega)]
   rw [e]
   exact ih
def prodB (rows : List (List Int)) (c : Int) : List Nat → Int
 | [] => 1
 | i :: is => c * rsum (rw_ rows i) * prodB rows c is
theorem rsum_nn (r : List Int) : 0 ≤ rsum r := psum_nn 6
theorem prodB_nn (rows : List (List Int)) {c : Int} (hc : 0 ≤ c) : ∀ is, 0 ≤ prodB rows c is
 | [] => by simp [prodB]
 | i :: is => Int.mul_nonneg (Int.mul_nonneg hc (rsum_nn _)) (prodB_nn rows hc is)
theorem abs_mul {x m P : Int} (h : -P ≤ m ∧ m ≤ P) : -(absI x * P) ≤ x * m ∧ x * m ≤ absI x * P := by
 unfold absI
 split
 ·rename_i hx
  have h1 := Int.mul_le_mul_of_nonneg_left h.1 (show 0 ≤ -x by omega)
  have h2 := Int.mul_le_mul_of_nonneg_left h.2 (show 0 ≤ -x by omega)
  have e1 : -x * -P = x * P := by rw [Int.neg_mul_neg]
  have e2 : -x * m = -(x * m) := Int.neg_mul x m
  have e3 : -x * P = -(x * P) := Int.neg_mul x P
  omega
 ·rename_i hx
  have h1 := Int.mul_le_mul_of_nonneg_left h.1 (show 0 ≤ x by omega)
  have h2 := Int.mul_le_mul_of_nonneg_left h.2 (show 0 ≤ x by omega)
  have e3 : x * -P = -(x * P) := Int.mul_neg x P
  omega
def okJ (us : List Nat) : Prop := us.Nodup ∧ ∀ x ∈ us, x < 6
theorem okJ.sub {us vs : List Nat} (h : okJ us) (hs : vs.Sublist us) : okJ vs := ⟨h.1.sublist hs, fun x hx => h.2 x (hs.subset hx)⟩
def okI (rows : List (List Int)) (is : List Nat) : Prop := ∀ i ∈ is, i < rows.length
structure okW (rows : List (List Int)) (c : Int) (us : List Nat) : Prop where
 lt : ∀ x ∈ us, x < 6
 le : ∀ vs : List Nat, vs.Sublist us → ∀ i, i < rows.length → asum rows i vs vs.length ≤ c * rsum (rw_ rows i)
theorem okW.sub {rows : List (List Int)} {c : Int} {us vs : List Nat} (h : okW rows c us) (hs : vs.Sublist us) : okW rows c vs := ⟨fun x hx => h.lt x (hs.subset hx), fun ws hw i hi => h.le ws (hw.trans hs) i hi⟩
theorem okW.at {rows : List (List Int)} {c : Int} {us : List Nat} (h : okW rows c us) {i : Nat} (hi : i < rows.length) (n : Nat) : asum rows i us n ≤ c * rsum (rw_ rows i) := by
 have e : asum rows i us n = asum rows i (us.take n) (us.take n).length := by
  unfold asum
  rw [List.take_length]
 rw [e]
 exact h.le _ (List.take_sublist _ _) i hi
theorem okJ.toW {rows : List (List Int)} (h6 : ∀ i, i < rows.length → (rw_ rows i).length = 6) {us : List Nat} (h : okJ us) : okW rows 1 us :=
 ⟨h.2, fun vs hs i hi => by rw [Int.one_mul]; exact asum_le (h6 i hi) (h.1.sublist hs) fun x hx => h.2 x (hs.subset hx)⟩
theorem minor_bnd {rows : List (List Int)} {c : Int} (hc : 0 ≤ c) : ∀ {is : List Nat} {us : List Nat}, okI rows is → okW rows c us →
  (-prodB rows c is ≤ minorF (ent rows) is us ∧ minorF (ent rows) is us ≤ prodB rows c is) ∧ (∀ i is', is = i :: is' → ∀ n, n ≤ us.length →
   -(asum rows i us n * prodB rows c is') ≤ altS (fun p => ent rows i (us.getD p 0) * minorF (ent rows) is' (us.eraseIdx p)) n ∧ altS (fun p => ent rows i (us.getD p 0) * minorF (ent rows) is' (us.eraseIdx p)) n ≤ asum rows i us n * prodB rows c is')
 | [], us, _, _ => ⟨by simp [minorF, prodB], fun i is' h => by cases h⟩
 | i :: is, us, hi, hj => by
  have key : ∀ n, n ≤ us.length → -(asum rows i us n * prodB rows c is) ≤ altS (fun p => ent rows i (us.getD p 0) * minorF (ent rows) is (us.eraseIdx p)) n ∧ altS (fun p => ent rows i (us.getD p 0) * minorF (ent rows) is (us.eraseIdx p)) n ≤ asum rows i us n * prodB rows c is := by
   intro n
   induction n with
   | zero => intro _; simp [altS, asum]
   | succ n ih =>
    intro hn
    obtain ⟨a1, a2⟩ := ih (by omega)
    obtain ⟨b1, _⟩ := minor_bnd hc (is := is) (us := us.eraseIdx n) (fun x hx => hi x (by simp [hx])) (hj.sub (List.eraseIdx_sublist us n))
    obtain ⟨c1, c2⟩ := abs_mul (x := ent rows i (us.getD n 0)) b1
    rw [asum_succ (by omega), Int.add_mul]
    simp only [altS]
    rcases sg_or n with h | h
    ·rw [h, Int.one_mul]; omega
    ·rw [h, Int.neg_mul, Int.one_mul]; omega
  refine ⟨?_, fun i' is' e => by cases e; exact key⟩
  have h1 := key us.length (Nat.le_refl _)
  have h2 := hj.at (hi i (by simp)) us.length
  have h3 := Int.mul_le_mul_of_nonneg_right h2 (prodB_nn rows hc is)
  simp only [minorF, prodB]
  omega
def okP (rows : List (List Int)) (c : Int) (is : List Nat) : Prop := ∀ s, s <:+ is → prodB rows c s ≤ 9000000000000000000
theorem altS_eq (f : Nat → Int) : ∀ n, altS f n = psumF (fun k => sg k * f k) n
 | 0 => rfl
 | n + 1 => by simp only [altS, psumF, altS_eq f n]
theorem psumF_congr {f g : Nat → Int} : ∀ {n : Nat}, (∀ k, k < n → f k = g k) → psumF f n = psumF g n
 | 0, _ => rfl
 | n + 1, h => by
  simp only [psumF]
  rw [psumF_congr (n := n) fun k hk => h k (by omega), h n (by omega)]
theorem psumF_zero : ∀ n, psumF (fun _ => 0) n = 0
 | 0 => rfl
 | n + 1 => by simp only [psumF, psumF_zero n]; rfl
theorem psumF_add (f g : Nat → Int) : ∀ n, psumF (fun k => f k + g k) n = psumF f n + psumF g n
 | 0 => rfl
 | n + 1 => by simp only [psumF, psumF_add f g n]; omega
theorem psumF_neg (f : Nat → Int) : ∀ n, psumF (fun k => -f k) n = -psumF f n
 | 0 => rfl
 | n + 1 => by simp only [psumF, psumF_neg f n]; omega
theorem psumF_mul (c : Int) (f : Nat → Int) : ∀ n, psumF (fun k => c * f k) n = c * psumF f n
 | 0 => by simp [psumF]
 | n + 1 => by simp only [psumF, psumF_mul c f n, Int.mul_add]
theorem psumF_comm (f : Nat → Nat → Int) (m : Nat) : ∀ n, psumF (fun p => psumF (fun q => f p q) m) n = psumF (fun q => psumF (fun p => f p q) n) m
 | 0 => by simp only [psumF]; exact (psumF_zero m).symm
 | n + 1 => by
  simp only [psumF]
  rw [psumF_comm f m n, ← psumF_add]
def skip (p q : Nat) : Nat := if q < p then q else q + 1
def eps (p q : Nat) : Int := if q < p then sg q else if q = p then 0 else -sg q
theorem skip_lo (F : Nat → Int) (p : Nat) : ∀ n, n ≤ p → psumF (fun q => sg q * F (skip p q)) n = psumF (fun q => eps p q * F q) n := fun n hn => psumF_congr fun q hq => by
 unfold skip eps
 rw [if_pos (by omega), if_pos (by omega)]
theorem skip_sum (F : Nat → Int) (p : Nat) : ∀ n, psumF (fun q => sg q * F (skip p q)) (p + n) = psumF (fun q => eps p q * F q) (p + n + 1)
 | 0 => by
  rw [Nat.add_zero, skip_lo F p p (Nat.le_refl _)]
  simp only [psumF]
  have : eps p p = 0 := by unfold eps; rw [if_neg (by omega), if_pos rfl]
  rw [this, Int.zero_mul, Int.add_zero]
 | n + 1 => by
  have ih := skip_sum F p n
  have e1 : skip p (p + n) = p + n + 1 := if_neg (by omega)
  have e2 : eps p (p + n + 1) = sg (p + n) := by
   unfold eps
   rw [if_neg (by omega), if_neg (by omega), sg_succ, Int.neg_neg]
  show psumF (fun q => sg q * F (skip p q)) (p + n) + sg (p + n) * F (skip p (p + n)) = psumF (fun q => eps p q * F q) (p + n + 1) + eps p (p + n + 1) * F (p + n + 1)
  rw [ih, e1, e2]
theorem skip_all (F : Nat → Int) {p n : Nat} (h : p < n) : psumF (fun q => sg q * F (skip p q)) (n - 1) = psumF (fun q => eps p q * F q) n := by
 have := skip_sum F p (n - 1 - p)
 rwa [show p + (n - 1 - p) = n - 1 by omega, show n - 1 + 1 = n by omega] at this
theorem erase_get {us : List Nat} {p q : Nat} (hp : p < us.length) : (us.eraseIdx p).getD q 0 = us.getD (skip p q) 0 := by
 rw [List.getD_eq_getElem?_getD, List.getD_eq_getElem?_getD, List.getElem?_eraseIdx]
 unfold skip
 split <;> rfl
theorem erase_comm : ∀ {us : List Nat} {p r : Nat}, r < p → (us.eraseIdx p).eraseIdx r = (us.eraseIdx r).eraseIdx (p - 1)
 | [], p, r, _ => by simp
 | a :: us, 0, r, h => by omega
 | a :: us, p + 1, 0, _ => by simp
 | a :: us, p + 1, r + 1, h => by
  have ih := erase_comm (us := us) (p := p) (r := r) (by omega)
  simp only [List.eraseIdx_cons_succ]
  rw [ih]
  obtain ⟨p', rfl⟩ : ∃ p', p = p' + 1 := ⟨p - 1, by omega⟩
  simp
def rem2 (us : List Nat) (p r : Nat) : List Nat := if r < p then (us.eraseIdx p).eraseIdx r else (us.eraseIdx p).eraseIdx (r - 1)
theorem rem2_skip {us : List Nat} {p q : Nat} : (us.eraseIdx p).eraseIdx q = rem2 us p (skip p q) := by
 unfold rem2 skip
 by_cases h : q < p
 ·simp only [h, if_true]
 ·have h2 : ¬ (q + 1 < p) := by omega
  simp only [h, h2, if_false, Nat.add_sub_cancel]
theorem rem2_comm {us : List Nat} {p r : Nat} (h : p ≠ r) : rem2 us p r = rem2 us r p := by
 unfold rem2
 by_cases hr : r < p
 ·rw [if_pos hr, if_neg (by omega), erase_comm hr]
 ·rw [if_neg hr, if_pos (by omega), erase_comm (show p < r by omega)]
theorem minor_two (e : Nat → Nat → Int) (a b : Nat) (is us : List Nat) : minorF e (a :: b :: is) us = psumF (fun p => psumF (fun q => sg p * eps p q * (e a (us.getD p 0) * e b (us.getD q 0) * minorF e is (rem2 us p q))) us.length) us.length := by
 show altS _ us.length = _
 rw [altS_eq]
 refine psumF_congr fun p hp => ?_
 have h1 : minorF e (b :: is) (us.eraseIdx p) = psumF (fun q => eps p q * (e b (us.getD q 0) * minorF e is (rem2 us p q))) us.length := by
  show altS _ (us.eraseIdx p).length = _
  rw [altS_eq, List.length_eraseIdx, if_pos hp, ← skip_all (fun q => e b (us.getD q 0) * minorF e is (rem2 us p q)) hp]
  refine psumF_congr fun q hq => ?_
  rw [erase_get hp, rem2_skip]
 simp only [h1]
 rw [← psumF_mul, ← psumF_mul]
 refine psumF_congr fun q hq => ?_
 simp only [Int.mul_assoc, Int.mul_left_comm, Int.mul_comm]
theorem eps_swap {p q : Nat} : sg q * eps q p = -(sg p * eps p q) := by
 unfold eps
 by_cases h : p = q
 ·subst h
  simp
 ·by_cases hl : p < q
  ·rw [if_pos hl, if_neg (by omega), if_neg (by omega), Int.mul_neg, Int.neg_neg, Int.mul_comm]
  ·rw [if_neg hl, if_neg h, if_pos (by omega), Int.mul_neg, Int.mul_comm]
theorem minor_swap (e : Nat → Nat → Int) (a b : Nat) (is us : List Nat) : minorF e (a :: b :: is) us = -minorF e (b :: a :: is) us := by
 rw [minor_two, minor_two, psumF_comm, ← psumF_neg]
 refine psumF_congr fun q _ => ?_
 rw [← psumF_neg]
 refine psumF_congr fun p _ => ?_
 by_cases h : p = q
 ·subst h
  have : eps p p = 0 := by unfold eps; rw [if_neg (by omega), if_pos rfl]
  simp [this]
 ·rw [rem2_comm h]
  have := eps_swap (p := p) (q := q)
  rw [this, Int.neg_mul, Int.neg_neg, Int.mul_comm (e b (us.getD q 0))]
theorem minor_swap_at (e : Nat → Nat → Int) (a b : Nat) (is : List Nat) : ∀ (pre us : List Nat), minorF e (pre ++ a :: b :: is) us = -minorF e (pre ++ b :: a :: is) us
 | [], us => minor_swap e a b is us
 | c :: pre, us => by
  simp only [zCA, minorF]
  rw [altS_eq, altS_eq, ← psumF_neg]
  refine psumF_congr fun p _ => ?_
  rw [minor_swap_at e a b is pre (us.eraseIdx p)]
  simp [Int.mul_neg]
theorem minor_rep (e : Nat → Nat → Int) (a : Nat) (post us : List Nat) : ∀ (mid pre : List Nat), minorF e (pre ++ a :: (mid ++ a :: post)) us = 0
 | [], pre => by
  have := minor_swap_at e a a post pre us
  simp only [zNA]
  omega
 | c :: mid, pre => by
  have h1 := minor_swap_at e a c (mid ++ a :: post) pre us
  have h2 := minor_rep e a post us mid (pre ++ [c])
  simp only [List.append_assoc, zCA, zNA] at h2
  simp only [zCA]
  rw [h1, h2]
  rfl
theorem dup_split : ∀ {l : List Nat}, ¬ l.Nodup → ∃ a pre mid post, l = pre ++ a :: (mid ++ a :: post)
 | [], h => absurd List.nodup_nil h
 | x :: l, h => by
  by_cases hx : x ∈ l
  ·obtain ⟨s, t, rfl⟩ := List.append_of_mem hx
   exact ⟨x, [], s, t, rfl⟩
  ·have hl : ¬ l.Nodup := fun hn => h (List.nodup_cons.2 ⟨hx, hn⟩)
   obtain ⟨a, pre, mid, post, rfl⟩ := dup_split hl
   exact ⟨a, x :: pre, mid, post, rfl⟩
theorem minor_nodup {e : Nat → Nat → Int} {is us : List Nat} (h : minorF e is us ≠ 0) : is.Nodup := by
 apply Decidable.byContradiction
 intro hn
 obtain ⟨a, pre, mid, post, rfl⟩ := dup_split hn
 exact h (minor_rep e a post us mid pre)
def prodM (rows : List (List Int)) : List Nat → Int
 | [] => 1
 | i :: is => max (rsum (rw_ rows i)) 1 * prodM rows is
theorem prodM_pos (rows : List (List Int)) : ∀ is, 1 ≤ prodM rows is
 | [] => by simp [prodM]
 | i :: is => by
  have ih := prodM_pos rows is
  have := Int.mul_le_mul (show 1 ≤ max (rsum (rw_ rows i)) 1 by omega) ih (by omega) (by omega)
  unfold prodM
  omega
theorem prodB_le (rows : List (List Int)) : ∀ is, prodB rows 1 is ≤ prodM rows is
 | [] => by simp [prodB, prodM]
 | i :: is => by
  have ih := prodB_le rows is
  exact Int.mul_le_mul (by omega) ih (prodB_nn _ (by decide) _) (by omega)
theorem prodB_two (rows : List (List Int)) : ∀ is, prodB rows 2 is = 2 ^ is.length * prodB rows 1 is
 | [] => by simp [prodB]
 | i :: is => by
  simp only [prodB, prodB_two rows is, List.length_cons, Int.pow_succ, Int.one_mul]
  simp only [Int.mul_assoc, Int.mul_left_comm, Int.mul_comm]
theorem prodM_app (rows : List (List Int)) (b : List Nat) : ∀ a, prodM rows (a ++ b) = prodM rows a * prodM rows b
 | [] => by simp [prodM]
 | i :: a => by simp only [zCA, prodM, prodM_app rows b a, Int.mul_assoc]
theorem prodM_vol {rows : List (List Int)} : ∀ (m : Nat) (l : List Nat), l.Nodup → (∀ x ∈ l, x < m) → prodM rows l ≤ volN rows m
 | 0, l, _, h => by
  cases l with
  | nil => simp [prodM, volN]
  | cons x l => exact absurd (h x (by simp)) (by omega)
 | m + 1, l, hn, h => by
  unfold volN
  by_cases hm : m ∈ l
  ·obtain ⟨s, t, rfl⟩ := List.append_of_mem hm
   have hn2 : (s ++ t).Nodup := hn.sublist (List.Sublist.append_left (List.sublist_cons_self m t) s)
   have hnm : m ∉ s ++ t := by
    rw [List.nodup_append] at hn
    obtain ⟨_, h2, h3⟩ := hn
    rw [List.nodup_cons] at h2
    rw [List.mem_append]
    rintro (hs | ht)
    ·exact h3 m hs m (by simp) rfl
    ·exact h2.1 ht
   have ih := prodM_vol (rows := rows) m (s ++ t) hn2 (fun x hx => by
    have h1 := h x (by rw [List.mem_append] at hx ⊢; rcases hx with hx | hx; exact .inl hx; exact .inr (by simp [hx]))
    have h2 : x ≠ m := fun e => hnm (e ▸ hx)
    omega)
   have e : prodM rows (s ++ m :: t) = prodM rows (s ++ t) * max (rsum (rw_ rows m)) 1 := by
    rw [prodM_app, prodM_app]
    simp only [prodM]
    simp only [Int.mul_assoc, Int.mul_comm]
   rw [e]
   exact Int.mul_le_mul_of_nonneg_right ih (by omega)
  ·have ih := prodM_vol (rows := rows) m l hn (fun x hx => by
    have h1 := h x hx
    have h2 : x ≠ m := fun e => hm (e ▸ hx)
    omega)
   have := Int.mul_le_mul_of_nonneg_left (show 1 ≤ max (rsum (rw_ rows m)) 1 by omega) (show 0 ≤ volN rows m by have := volN_pos (rows := rows) m; omega)
   omega
theorem rsum_le {r : List Int} (h : okE r) : rsum r ≤ 6000000000 := psum_bnd h 6 (Nat.le_refl _)
theorem okP_one {rows : List (List Int)} (hv : VM rows) {is : List Nat} (hn : is.Nodup) (hi : okI rows is) {i : Nat} (hi1 : i < rows.length) : okP rows 1 (is ++ [i]) := by
 intro s hs
 have h1 : prodM rows is ≤ 1000000000 := by
  have := prodM_vol (rows := rows) rows.length is hn hi
  have := hv.2.2
  omega
 have h2 := rsum_le (hv.2.1 i hi1)
 have h3 : prodM rows (is ++ [i]) ≤ 6000000000000000000 := by
  rw [prodM_app]
  have e : prodM rows [i] = max (rsum (rw_ rows i)) 1 := by simp [prodM]
  rw [e]
  have := Int.mul_le_mul h1 (show max (rsum (rw_ rows i)) 1 ≤ 6000000000 by omega) (by omega) (by omega)
  omega
 obtain ⟨t, ht⟩ := hs
 rw [← ht, prodM_app] at h3
 have h4 := prodM_pos rows t
 have h5 := prodM_pos rows s
 have h6 := Int.mul_le_mul_of_nonneg_right h4 (show 0 ≤ prodM rows s by omega)
 have h7 := prodB_le rows s
 omega
theorem okP_two {rows : List (List Int)} (hv : VM rows) {is : List Nat} (hn : is.Nodup) (hi : okI rows is) (hl : is.length ≤ 8) : okP rows 2 is := by
 intro s hs
 have h1 : prodM rows is ≤ 1000000000 := by
  have := prodM_vol (rows := rows) rows.length is hn hi
  have := hv.2.2
  omega
 obtain ⟨t, ht⟩ := hs
 have hsl : s.length ≤ 8 := by
  have := congrArg List.length ht
  rw [List.length_append] at this
  omega
 rw [← ht, prodM_app] at h1
 have h4 := prodM_pos rows t
 have h5 := prodM_pos rows s
 have h6 := Int.mul_le_mul_of_nonneg_right h4 (show 0 ≤ prodM rows s by omega)
 have h7 := prodB_le rows s
 have h8 : (2 : Int) ^ s.length ≤ 256 := by
  have : s.length = 0 ∨ s.length = 1 ∨ s.length = 2 ∨ s.length = 3 ∨ s.length = 4 ∨ s.length = 5 ∨ s.length = 6 ∨ s.length = 7 ∨ s.length = 8 := by omega
  rcases this with h | h | h | h | h | h | h | h | h <;> rw [h] <;> decide
 have h9 := Int.mul_le_mul h8 (show prodB rows 1 s ≤ 1000000000 by omega) (prodB_nn _ (by decide) _) (by omega)
 rw [prodB_two]
 omega
theorem asum_cons {rows : List (List Int)} {i j : Nat} {us : List Nat} : asum rows i (j :: us) (us.length + 1) = absI (ent rows i j) + asum rows i us us.length := by
 unfold asum
 simp
theorem asum_app {rows : List (List Int)} {i : Nat} (a b : List Nat) : asum rows i (a ++ b) (a ++ b).length = asum rows i a a.length + asum rows i b b.length := by
 unfold asum
 rw [List.take_length, List.take_length, List.take_length, List.map_append, List.sum_append]
theorem ent_le {rows : List (List Int)} {i j : Nat} (h6 : (rw_ rows i).length = 6) (hj : j < 6) : absI (ent rows i j) ≤ rsum (rw_ rows i) := by
 have := asum_le (rows := rows) (i := i) (n := 1) (us := [j]) h6 (by simp) (fun x hx => by simp at hx; omega)
 simpa [asum] using this
theorem okW_set {rows : List (List Int)} (h6 : ∀ i, i < rows.length → (rw_ rows i).length = 6) {js : List Nat} (hj : okJ js) (k : Nat) {j : Nat} (hj6 : j < 6) : okW rows 2 (js.set k j) := by
 have hlt : ∀ x ∈ js.set k j, x < 6 := fun x hx => by
  rcases List.mem_or_eq_of_mem_set hx with h | h
  ·exact hj.2 x h
  ·omega
 refine ⟨hlt, fun vs hs i hi => ?_⟩
 have hr := rsum_nn (rw_ rows i)
 by_cases hk : k < js.length
 ·have e : js.set k j = js.take k ++ j :: js.drop (k + 1) := by rw [List.set_eq_take_append_cons_drop, if_pos hk]
  rw [e] at hs
  obtain ⟨v1, v2, rfl, h1, h2⟩ := List.sublist_append_iff.1 hs
  have hjn : (js.take k ++ js.drop (k + 1)).Sublist js := by
   rw [← List.eraseIdx_eq_take_drop_succ]
   exact List.eraseIdx_sublist js k
  rw [asum_app]
  cases v2 with
  | nil =>
   have h3 := asum_le (rows := rows) (i := i) (n := v1.length) (h6 i hi) (hj.1.sublist (h1.trans (List.take_sublist _ _))) fun x hx => hj.2 x ((h1.trans (List.take_sublist _ _)).subset hx)
   have h4 : asum rows i [] ([] : List Nat).length = 0 := by simp [asum]
   omega
  | cons y v2 =>
   have hc : (y :: v2).Sublist (js.drop (k + 1)) ∨ y = j ∧ v2.Sublist (js.drop (k + 1)) := by
    cases h2 with
    | cons _ h => exact .inl h
    | cons_cons _ h => exact .inr ⟨rfl, h⟩
   rcases hc with h3 | ⟨rfl, h3⟩
   ·have hs2 : (v1 ++ y :: v2).Sublist js := (h1.append h3).trans hjn
    have h4 := asum_le (rows := rows) (i := i) (n := (v1 ++ y :: v2).length) (h6 i hi) (hj.1.sublist hs2) fun x hx => hj.2 x (hs2.subset hx)
    rw [asum_app] at h4
    omega
   ·have hs2 : (v1 ++ v2).Sublist js := (h1.append h3).trans hjn
    have h4 := asum_le (rows := rows) (i := i) (n := (v1 ++ v2).length) (h6 i hi) (hj.1.sublist hs2) fun x hx => hj.2 x (hs2.subset hx)
    rw [asum_app] at h4
    have h5 := ent_le (rows := rows) (h6 i hi) hj6
    rw [List.length_cons, asum_cons]
    omega
 ·have e : js.set k j = js := List.set_eq_of_length_le (by omega)
  rw [e] at hs
  have h3 := asum_le (rows := rows) (i := i) (n := vs.length) (h6 i hi) (hj.1.sublist hs) fun x hx => hj.2 x (hs.subset hx)
  omega
theorem psumF_left (f : Nat → Int) : ∀ n, psumF f (n + 1) = f 0 + psumF (fun k => f (k + 1)) n
 | 0 => by simp [psumF]
 | n + 1 => by
  have ih := psumF_left f n
  show psumF f (n + 1) + f (n + 1) = f 0 + (psumF (fun k => f (k + 1)) n + f (n + 1))
  rw [ih]
  omega
theorem minor_cons (e : Nat → Nat → Int) (i : Nat) (is us : List Nat) : minorF e (i :: is) us = psumF (fun p => sg p * (e i (us.getD p 0) * minorF e is (us.eraseIdx p))) us.length := by
 show altS _ us.length = _
 rw [altS_eq]
theorem minor_col (e : Nat → Nat → Int) (u : Nat) : ∀ (is us : List Nat), is.length = us.length + 1 → minorF e is (u :: us) = psumF (fun t => sg t * (e (is.getD t 0) u * minorF e (is.eraseIdx t) us)) is.length
 | [], us, h => by simp at h
 | i :: is, us, h => by
  have hl : is.length = us.length := by simpa using h
  rw [minor_cons, List.length_cons, List.length_cons, psumF_left, psumF_left]
  simp only [List.getD_cons_zero, List.eraseIdx_cons_zero, List.getD_cons_succ, List.eraseIdx_cons_succ]
  congr 1
  have e1 : psumF (fun k => sg (k + 1) * (e i (us.getD k 0) * minorF e is (u :: us.eraseIdx k))) us.length = psumF (fun k => psumF (fun t => sg (k + 1) * (e i (us.getD k 0) * (sg t * (e (is.getD t 0) u * minorF e (is.eraseIdx t) (us.eraseIdx k))))) is.length) us.length := by
   refine psumF_congr fun k hk => ?_
   rw [minor_col e u is (us.eraseIdx k) (by rw [List.length_eraseIdx, if_pos hk]; omega), ← psumF_mul, ← psumF_mul]
  rw [e1, psumF_comm]
  refine psumF_congr fun t ht => ?_
  rw [minor_cons, ← psumF_mul, ← psumF_mul]
  refine psumF_congr fun k hk => ?_
  rw [sg_succ, sg_succ]
  grind
theorem minor_tr : ∀ (e : Nat → Nat → Int) (us is : List Nat), is.length = us.length → minorF e is us = minorF (fun j i => e i j) us is
 | e, [], [], _ => rfl
 | e, [], _ :: _, h => by simp at h
 | e, u :: us, is, h => by
  rw [minor_col e u is us (by simpa using h), minor_cons]
  refine psumF_congr fun t ht => ?_
  rw [minor_tr e us (is.eraseIdx t) (by rw [List.length_eraseIdx, if_pos ht, h]; simp)]
theorem minor_crep {e : Nat → Nat → Int} {is : List Nat} {a : Nat} {pre mid post : List Nat} (h : is.length = (pre ++ a :: (mid ++ a :: post)).length) : minorF e is (pre ++ a :: (mid ++ a :: post)) = 0 := by
 rw [minor_tr _ _ _ h]
 exact minor_rep _ a post is mid pre
theorem minor_cdup {e : Nat → Nat → Int} {is us : List Nat} (h : is.length = us.length) (hn : ¬ us.Nodup) : minorF e is us = 0 := by
 obtain ⟨a, pre, mid, post, rfl⟩ := dup_split hn
 exact minor_crep h
theorem sg_add (a : Nat) : ∀ b, sg (a + b) = sg a * sg b
 | 0 => by simp [sg]
 | b + 1 => by
  show sg (a + b + 1) = _
  rw [sg_succ, sg_add a b, sg_succ, Int.mul_neg]
theorem sg_sq (n : Nat) : sg n * sg n = 1 := by
 rcases sg_or n with h | h <;> rw [h] <;> rfl
theorem minor_move (e : Nat → Nat → Int) (a : Nat) (us : List Nat) : ∀ (mid pre post : List Nat), minorF e (pre ++ a :: (mid ++ post)) us = sg mid.length * minorF e (pre ++ (mid ++ a :: post)) us
 | [], pre, post => by simp [sg]
 | c :: mid, pre, post => by
  have h1 := minor_swap_at e a c (mid ++ post) pre us
  have h2 := minor_move e a us mid (pre ++ [c]) post
  simp only [List.append_assoc, zCA, zNA] at h2
  rw [List.cons_append, h1, h2, List.length_cons, sg_succ, Int.neg_mul]
  rfl
theorem minor_cmove {e : Nat → Nat → Int} {a : Nat} {is mid pre post : List Nat} (h : is.length = (pre ++ a :: (mid ++ post)).length) : minorF e is (pre ++ a :: (mid ++ post)) = sg mid.length * minorF e is (pre ++ (mid ++ a :: post)) := by
 rw [minor_tr _ _ _ h, minor_tr _ (pre ++ (mid ++ a :: post)) _ (by simp at h ⊢; omega)]
 exact minor_move _ a is mid pre post
theorem minor_lin {e : Nat → Nat → Int} {D : Int} {b m : Nat} {c : Nat → Int} {a : Nat → Nat} {post : List Nat} : ∀ {pre us : List Nat}, (∀ j ∈ us, D * e b j = psumF (fun l => c l * e (a l) j) m) →
  D * minorF e (pre ++ b :: post) us = psumF (fun l => c l * minorF e (pre ++ a l :: post) us) m
 | [], us, h => by
  simp only [zNA]
  have e1 : ∀ l, c l * minorF e (a l :: post) us = psumF (fun p => c l * (sg p * (e (a l) (us.getD p 0) * minorF e post (us.eraseIdx p)))) us.length := fun l => by rw [minor_cons, psumF_mul]
  simp only [e1]
  rw [psumF_comm, minor_cons, ← psumF_mul]
  refine psumF_congr fun p hp => ?_
  have hm : us.getD p 0 ∈ us := by
   rw [List.getD_eq_getElem?_getD, List.getElem?_eq_getElem hp]
   exact List.getElem_mem hp
  have e2 : D * (sg p * (e b (us.getD p 0) * minorF e post (us.eraseIdx p))) = (sg p * minorF e post (us.eraseIdx p)) * (D * e b (us.getD p 0)) := by
   simp only [Int.mul_assoc, Int.mul_left_comm, Int.mul_comm]
  rw [e2, h _ hm, ← psumF_mul]
  refine psumF_congr fun l _ => ?_
  simp only [Int.mul_assoc, Int.mul_left_comm, Int.mul_comm]
 | r :: pre, us, h => by
  simp only [zCA]
  have e1 : ∀ l, c l * minorF e (r :: (pre ++ a l :: post)) us = psumF (fun p => c l * (sg p * (e r (us.getD p 0) * minorF e (pre ++ a l :: post) (us.eraseIdx p)))) us.length := fun l => by rw [minor_cons, psumF_mul]
  simp only [e1]
  rw [psumF_comm, minor_cons, ← psumF_mul]
  refine psumF_congr fun p hp => ?_
  have ih := minor_lin (e := e) (D := D) (b := b) (m := m) (c := c) (a := a) (post := post) (pre := pre) (us := us.eraseIdx p) fun j hj => h j (List.mem_of_mem_eraseIdx hj)
  have e2 : D * (sg p * (e r (us.getD p 0) * minorF e (pre ++ b :: post) (us.eraseIdx p))) = (sg p * e r (us.getD p 0)) * (D * minorF e (pre ++ b :: post) (us.eraseIdx p)) := by
   simp only [Int.mul_assoc, Int.mul_left_comm, Int.mul_comm]
  rw [e2, ih, ← psumF_mul]
  refine psumF_congr fun l _ => ?_
  simp only [Int.mul_assoc, Int.mul_left_comm, Int.mul_comm]
theorem minor_clin {e : Nat → Nat → Int} {D : Int} {b m : Nat} {c : Nat → Int} {a : Nat → Nat} {is pre post : List Nat} (hl : is.length = (pre ++ b :: post).length) (h : ∀ i ∈ is, D * e i b = psumF (fun l => c l * e i (a l)) m) :
  D * minorF e is (pre ++ b :: post) = psumF (fun l => c l * minorF e is (pre ++ a l :: post)) m := by
 rw [minor_tr _ _ _ hl, minor_lin (e := fun j i => e i j) h]
 refine psumF_congr fun l _ => ?_
 rw [minor_tr e _ is (by simp at hl ⊢; omega)]
theorem set_split {js : List Nat} {k : Nat} (hk : k < js.length) (j : Nat) : js.set k j = js.take k ++ j :: js.drop (k + 1) := by
 rw [List.set_eq_take_append_cons_drop, if_pos hk]
theorem set_self {js : List Nat} {k : Nat} (hk : k < js.length) : js.set k (js.getD k 0) = js := by
 apply List.ext_getElem (by simp)
 intro i h1 h2
 by_cases e : k = i
 ·subst e
  rw [List.getElem_set_self]
  simp [List.getD_eq_getElem?_getD, h2]
 ·rw [List.getElem_set_ne e]
theorem set_other {js : List Nat} {k l : Nat} (hk : k < js.length) (hl : l < js.length) (hkl : k ≠ l) : ¬ (js.set k (js.getD l 0)).Nodup := by
 intro h
 have h1 : (js.set k (js.getD l 0))[k]'(by simpa using hk) = (js.set k (js.getD l 0))[l]'(by simpa using hl) := by
  rw [List.getElem_set_self, List.getElem_set_ne hkl]
  simp [List.getD_eq_getElem?_getD, hl]
 exact hkl ((List.getElem_inj h).1 h1)
def cof (e : Nat → Nat → Int) (is js : List Nat) (k t : Nat) : Int := sg k * (sg t * minorF e (is.eraseIdx t) (js.eraseIdx k))
theorem rep_lin {e : Nat → Nat → Int} {is js : List Nat} (hl : is.length = js.length) {k : Nat} (hk : k < js.length) (j : Nat) : minorF e is (js.set k j) = psumF (fun t => cof e is js k t * e (is.getD t 0) j) is.length := by
 have h1 : js.set k j = [] ++ (js.take k ++ j :: js.drop (k + 1)) := by rw [set_split hk]; rfl
 have h2 := minor_cmove (e := e) (a := j) (is := is) (mid := js.take k) (pre := []) (post := js.drop (k + 1)) (by simp; omega)
 have h3 : [] ++ j :: (js.take k ++ js.drop (k + 1)) = j :: js.eraseIdx k := by rw [List.eraseIdx_eq_take_drop_succ]; rfl
 have h4 : (js.take k).length = k := by simp; omega
 rw [h3, h4] at h2
 have h5 : minorF e is (js.set k j) = sg k * minorF e is (j :: js.eraseIdx k) := by
  rw [h1, h2, ← Int.mul_assoc, sg_sq, Int.one_mul]
 rw [h5, minor_col e j is _ (by rw [List.length_eraseIdx, if_pos hk]; omega), ← psumF_mul]
 refine psumF_congr fun t _ => ?_
 unfold cof
 simp only [Int.mul_assoc, Int.mul_left_comm, Int.mul_comm]
theorem rep_diag {e : Nat → Nat → Int} {is js : List Nat} (hl : is.length = js.length) {k l : Nat} (hk : k < js.length) (hll : l < js.length) : minorF e is (js.set k (js.getD l 0)) = if k = l then minorF e is js else 0 := by
 by_cases h : k = l
 ·subst h
  rw [if_pos rfl, set_self hk]
 ·rw [if_neg h]
  exact minor_cdup (by simpa using hl) (set_other hk hll h)
theorem border {e : Nat → Nat → Int} {is js : List Nat} (hl : is.length = js.length) (i j : Nat) : minorF e (is ++ [i]) (js ++ [j]) = minorF e is js * e i j - psumF (fun p => minorF e is (js.set p j) * e i (js.getD p 0)) js.length := by
 have h1 := minor_move e i (js ++ [j]) is [] []
 simp only [zNA, zAN] at h1
 have h2 : minorF e (is ++ [i]) (js ++ [j]) = sg is.length * minorF e (i :: is) (js ++ [j]) := by
  rw [h1, ← Int.mul_assoc, sg_sq, Int.one_mul]
 rw [h2, minor_cons, List.length_append, List.length_singleton]
 show sg is.length * (psumF _ js.length + sg js.length * (e i ((js ++ [j]).getD js.length 0) * minorF e is ((js ++ [j]).eraseIdx js.length))) = _
 have h3 : (js ++ [j]).getD js.length 0 = j := by simp [List.getD_eq_getElem?_getD]
 have h4 : (js ++ [j]).eraseIdx js.length = js := by
  rw [List.eraseIdx_append_of_length_le (Nat.le_refl _)]
  simp
 rw [h3, h4, Int.mul_add, hl, ← Int.mul_assoc, sg_sq, Int.one_mul, ← psumF_mul]
 have h5 : psumF (fun k => sg js.length * (sg k * (e i ((js ++ [j]).getD k 0) * minorF e is ((js ++ [j]).eraseIdx k)))) js.length = psumF (fun k => -(minorF e is (js.set k j) * e i (js.getD k 0))) js.length := by
  refine psumF_congr fun p hp => ?_
  have e1 : (js ++ [j]).getD p 0 = js.getD p 0 := by simp [List.getD_eq_getElem?_getD, List.getElem?_append_left hp]
  have e2 : (js ++ [j]).eraseIdx p = js.take p ++ (js.drop (p + 1) ++ [j]) := by
   rw [List.eraseIdx_append_of_lt_length hp, List.eraseIdx_eq_take_drop_succ, List.append_assoc]
  have e3 := minor_cmove (e := e) (a := j) (is := is) (mid := js.drop (p + 1)) (pre := js.take p) (post := []) (by simp; omega)
  rw [List.append_nil] at e3
  have e4 : (js.drop (p + 1)).length = js.length - (p + 1) := List.length_drop
  rw [e4] at e3
  have e5 : sg js.length * (sg p * sg (js.length - (p + 1))) = -1 := by
   rw [← sg_add, ← sg_add]
   unfold sg
   rw [if_neg (by omega)]
  rw [e1, e2, set_split hp, e3]
  generalize minorF e is (js.take p ++ (js.drop (p + 1) ++ [j])) = M
  have e6 : sg js.length * (sg p * (e i (js.getD p 0) * M)) = sg js.length * (sg p * (sg (js.length - (p + 1)) * sg (js.length - (p + 1)))) * (e i (js.getD p 0) * M) := by
   rw [sg_sq, Int.mul_one]
   simp only [Int.mul_assoc]
  rw [e6]
  have e7 : sg js.length * (sg p * (sg (js.length - (p + 1)) * sg (js.length - (p + 1)))) = (sg js.length * (sg p * sg (js.length - (p + 1)))) * sg (js.length - (p + 1)) := by simp only [Int.mul_assoc]
  rw [e7, e5]
  grind
 rw [h5, psumF_neg]
 grind
theorem rep_bnd {rows : List (List Int)} (h6 : ∀ i, i < rows.length → (rw_ rows i).length = 6) {is js : List Nat} (hi : okI rows is) (hj : okJ js) (hl : is.length = js.length) {k j : Nat} (hk : k < js.length) (hj6 : j < 6) :
  -prodB rows 1 is ≤ minorF (ent rows) is (js.set k j) ∧ minorF (ent rows) is (js.set k j) ≤ prodB rows 1 is := by
 by_cases hn : (js.set k j).Nodup
 ·have ho : okJ (js.set k j) := ⟨hn, fun x hx => by
   rcases List.mem_or_eq_of_mem_set hx with h | h
   ·exact hj.2 x h
   ·omega⟩
  exact (minor_bnd (by decide) hi (ho.toW h6)).1
 ·rw [minor_cdup (by simpa using hl) hn]
  have := prodB_nn rows (c := 1) (by decide) is
  omega
theorem prodB_vol {rows : List (List Int)} (hv : VM rows) {is : List Nat} (hn : is.Nodup) (hi : okI rows is) : prodB rows 1 is ≤ 1000000000 := by
 have h1 := prodM_vol (rows := rows) rows.length is hn hi
 have h2 := prodB_le rows is
 have := hv.2.2
 omega
set_option maxRecDepth 100000
set_option maxHeartbeats 4000000
def NatS (x : AV) (l : List Nat) : Prop := IntS x (l.map Int.ofNat)
theorem NatS.len {x : AV} {l : List Nat} (h : NatS x l) : slen x = some l.length := by
 have := IntS.len h
 rwa [List.length_map] at this
theorem natD {l : List Nat} {k : Nat} (h : k < l.length) : (l.map Int.ofNat).getD k 0 = ((l.getD k 0 : Nat) : Int) := by
 simp [List.getD_eq_getElem?_getD, h]
theorem NatS.at {x : AV} {l : List Nat} (h : NatS x l) {k : Nat} (hk : k < l.length) : ∃ t, indexAddrAV 1 x (.int .i64 (k : Int)) = some (.pval (.int .i64 ((l.getD k 0 : Nat) : Int) :: t)) := by
 have h1 := h.atI (i := (k : Int)) (by omega) (by rw [List.length_map]; omega)
 rw [toNat_cast, natD hk] at h1
 exact ⟨_, h1⟩
structure MF (A : List Bool → Hp) (l iv jv : AV) (k N b1 b2 b3 b4 b5 qu : Nat) : Prop where
 len : ∀ u, (A u).length = N
 l1 : ∀ u X, Zz.look (A u ++ X) b1 0 = some [iv]
 l2 : ∀ u X, Zz.look (A u ++ X) b2 0 = some [jv]
 l3 : ∀ u X, Zz.look (A u ++ X) b3 0 = some [.sref qu 0 0 1 k (some k)]
 l4 : ∀ u X, Zz.look (A u ++ X) b4 0 = some [l]
 l5 : ∀ u X, Zz.look (A u ++ X) b5 0 = some [.func 137 [] [.pref b1 0 0, .pref b2 0 0, .pref b3 0 0, .pref b4 0 0, .pref b5 0 0]]
 lu : ∀ u X, Zz.look (A u ++ X) qu 0 = some (u.map .bool)
 su : ∀ u u' X, (A u ++ X).set qu (some ⟨0, u'.map .bool⟩) = A u' ++ X
theorem okW.nd {rows : List (List Int)} {c : Int} {js : List Nat} (h : okW rows c js) {k : Nat} (hk : k < js.length) : js.getD k 0 < 6 := by
 rw [List.getD_eq_getElem?_getD, List.getElem?_eq_getElem hk]
 exact h.lt _ (List.getElem_mem hk)
theorem okI.nd {rows : List (List Int)} {is : List Nat} (h : okI rows is) {k : Nat} (hk : k < is.length) : is.getD k 0 < rows.length := by
 rw [List.getD_eq_getElem?_getD, List.getElem?_eq_getElem hk]
 exact h _ (List.getElem_mem hk)
theorem set_back {u : List Bool} {k : Nat} (h : u.getD k false = false) : (u.set k true).set k false = u := by
 rw [List.set_set]
 apply List.ext_getElem (by simp)
 intro j h1 h2
 by_cases e : k = j
 ·subst e
  rw [List.getElem_set_self]
  rw [List.getD_eq_getElem?_getD, List.getElem?_eq_getElem h2] at h
  exact h.symm
 ·rw [List.getElem_set_ne e]
theorem f137 {A : List Bool → Hp} {l iv jv : AV} {N b1 b2 b3 b4 b5 qu : Nat} {rows : List (List Int)} {is js : List Nat} (hA : MF A l iv jv js.length N b1 b2 b3 b4 b5 qu) (hl : RwL l rows) (hiv : NatS iv is) (hjv : NatS jv js) (hi : okI rows is) {c : Int} (hc : 0 ≤ c) (hj : okW rows c js) (hp9 : okP rows c is) (he : ∀ i, i < rows.length → okE (rw_ rows i)) (hil : is.length < 1000000) (hjl : js.length < 1000000) (hrl : rows.length < 9223372036854775807) {L : List (Option ALoop)} :
  ∀ (is' : List Nat) (i : Nat) (u : List Bool) (R : Hp), is.drop i = is' → i + is'.length = is.length → u.length = js.length →
   WF G0 (.func 137 [] [.pref b1 0 0, .pref b2 0 0, .pref b3 0 0, .pref b4 0 0, .pref b5 0 0]) [.int .i64 (i : Nat)] ⟨A u ++ R, L⟩ fun v m' => v = .int .i64 (minorF (ent rows) is' (unu js u)) ∧ m' = ⟨A u ++ R, L⟩
 | [], i, u, R, hd, hpl, hu => by
  have hivl := hiv.len
  have l1 := hA.l1
  have hie : i = is.length := by simpa using hpl
  refine WF.fnE rfl (fn_of Try.func137 cir137) (by show 6 ≤ 59; decide) ?_
  unfold ir137
  simp only [padTo, List.replicate, zNA, zCA]
  repeat' (first | (refine WO.opE (by intro; simp (disch := first | omega | (simp only [hA.len])) only [go_sem, l1]; rfl) (by simp only [pt8, pt0, pt5, pt6, pt7]; rfl) ?_) | (refine WO.opE (by intro; exact ev_lenS (by simp only [go_sem]; first | rfl | assumption)) (by simp only [pt8, pt7]; rfl) ?_) | (refine WC.seq ?_) | (refine WC.region ?_) | (refine WO.nil ?_) | (simp only [fl1, fl2]) | (refine WC.ret ?_) | (refine WC.em2 rfl (fun hp => ?_) (fun hp => ?_) <;> try (exfalso; first | omega | contradiction)))
  exact ⟨_, rfl, rfl, rfl⟩
 | ii :: is', i, u, R, hd, hpl, hu => by
  have hivl := hiv.len
  have hjvl := hjv.len
  have l1 := hA.l1
  have l2 := hA.l2
  have l3 := hA.l3
  have l4 := hA.l4
  have l5 := hA.l5
  have lu := hA.lu
  have hil2 : i < is.length := by simp at hpl; omega
  have hig : is.getD i 0 = ii := by
   have : (is.drop i)[0]? = some ii := by rw [hd]; rfl
   rw [List.getElem?_drop, Nat.add_zero] at this
   rw [List.getD_eq_getElem?_getD, this]
   rfl
  have hii := hi.nd hil2
  rw [hig] at hii
  obtain ⟨t1, hat1⟩ := hiv.at hil2
  rw [hig] at hat1
  have h6 := hl.six hii
  have hrow := hl.at hii
  have hsuf : is' <:+ is := by
   refine ⟨is.take (i + 1), ?_⟩
   have := List.take_append_drop (i + 1) is
   rw [← List.drop_drop, hd] at this
   simpa using this
  have hsuf2 : (ii :: is') <:+ is := ⟨is.take i, by rw [← hd]; exact List.take_append_drop i is⟩
  have hP := hp9 _ hsuf2
  have hoI : okI rows (ii :: is') := fun x hx => hi x (hsuf2.subset hx)
  have hus := hj.sub (unu_sub js u)
  have hbnd := (minor_bnd hc hoI hus).2 ii is' rfl
  have has : ∀ n, asum rows ii (unu js u) n ≤ c * rsum (rw_ rows ii) := fun n => hus.at hii n
  have hpe : prodB rows c (ii :: is') = c * rsum (rw_ rows ii) * prodB rows c is' := rfl
  have hpl0 := pn_len (js := js) (u := u) hu.symm
  refine WF.fnE rfl (fn_of Try.func137 cir137) (by show 6 ≤ 59; decide) ?_
  unfold ir137
  simp only [padTo, List.replicate, zNA, zCA]
  repeat' (first | (refine WO.opE (by intro; simp (disch := first | omega | (simp only [hA.len])) only [go_sem, l1, l2]; rfl) (by simp only [pt8, pt0, pt1, pt3, pt5, pt6, pt7]; rfl) ?_) | (refine WO.opE (by intro; exact ev_lenS (by simp only [go_sem]; first | rfl | assumption)) (by simp only [pt8, pt2, pt7]; rfl) ?_) | (refine WC.seq ?_) | (refine WC.region ?_) | (refine WO.nil ?_) | (simp only [fl1]) | (refine WC.skip ?_) | (refine WC.block ?_) | (refine WC.em2 rfl (fun hp => ?_) (fun hp => ?_) <;> try (exfalso; first | omega | contradiction)))
  refine WC.loopI (fun m st => ∃ T k S0 s0, st = ⟨T, A u ++ R, L⟩ ∧ T.length = 59 ∧ gt T 0 = .int .i64 (i : Nat) ∧ gt T 1 = .pref b1 0 0 ∧ gt T 2 = .pref b2 0 0 ∧ gt T 3 = .pref b3 0 0 ∧ gt T 4 = .pref b4 0 0 ∧ gt T 5 = .pref b5 0 0 ∧ gt T 8 = .int .i64 S0 ∧ gt T 9 = .int .i64 s0 ∧ gt T 17 = jv ∧ gt T 18 = .int .i64 (js.length : Nat) ∧ gt T 19 = .int .i64 (k : Nat) ∧ m + k = js.length ∧ S0 = altS (fun p => ent rows ii ((unu js u).getD p 0) * minorF (ent rows) is' ((unu js u).eraseIdx p)) (pn u k) ∧ s0 = sg (pn u k)) ?_ js.length _ ⟨_, 0, 0, 1, rfl, rfl, rfl, rfl, rfl, rfl, rfl, rfl, rfl, rfl, rfl, rfl, rfl, by omega, by rw [pn_zero]; rfl, by rw [pn_zero]; rfl⟩
  rintro m _ ⟨T, k, S0, s0, rfl, hT, g0, g1, g2, g3, g4, g5, g8, g9, g17, g18, g19, hm, hS0, hs0⟩
  obtain ⟨f, rfl⟩ := ex59 hT
  clear hT
  replace g0 : f 0 = .int .i64 (i : Nat) := g0
  replace g1 : f 1 = .pref b1 0 0 := g1
  replace g2 : f 2 = .pref b2 0 0 := g2
  replace g3 : f 3 = .pref b3 0 0 := g3
  replace g4 : f 4 = .pref b4 0 0 := g4
  replace g5 : f 5 = .pref b5 0 0 := g5
  replace g8 : f 8 = .int .i64 S0 := g8
  replace g9 : f 9 = .int .i64 s0 := g9
  replace g17 : f 17 = jv := g17
  replace g18 : f 18 = .int .i64 (js.length : Nat) := g18
  replace g19 : f 19 = .int .i64 (k : Nat) := g19
  simp only [g0, g1, g2, g3, g4, g5, g8, g9, g17, g18, g19]
  by_cases hk : k < js.length
  ·have hku : k < u.length := by omega
   have hkj := hj.nd hk
   obtain ⟨t2, hat2⟩ := hjv.at hk
   have hps := pn_succ hku
   by_cases hused : u.getD k false = true
   ·have hub : (u.map AV.bool)[k]? = some (.bool true) := by rw [bool_at hku, decide_eq_true hused]
    rw [if_pos hused] at hps
    repeat' (first | (refine WO.opE (by intro; simp (disch := first | omega | (simp only [hA.len])) only [go_sem, l3, lu, hat2, ia_sref, hub, Nat.mul_one]; rfl) (by simp only [pt8, pt0, pt1, pt2, pt3, pt4, pt5, pt6, pt7]; rfl) ?_) | (refine WC.seq ?_) | (refine WC.region ?_) | (refine WO.nil ?_) | (simp only [fl1, fl10]) | (refine WC.yes rfl ?_) | (refine WC.skip ?_) | (refine WC.exit ?_) | (refine WC.block ?_) | (refine WC.em2 rfl (fun hp => ?_) (fun hp => ?_) <;> try (exfalso; first | omega | contradiction)))
    exact ⟨m - 1, by omega, _, k + 1, S0, s0, rfl, rfl, rfl, rfl, rfl, rfl, rfl, rfl, rfl, rfl, rfl, rfl, rfl, by omega, by rw [hps]; exact hS0, by rw [hps]; exact hs0⟩
   ·have hfalse : u.getD k false = false := by simpa using hused
    have hub : (u.map AV.bool)[k]? = some (.bool false) := by rw [bool_at hku, decide_eq_false hused]
    rw [if_neg hused] at hps
    obtain ⟨q1, q2, q3⟩ := unu_at hu.symm hku hfalse
    have hover := bool_over (v := true) hku
    have hover2 := bool_over (c := u.set k true) (i := k) (v := false) (by simpa using hku)
    rw [set_back hfalse] at hover2
    have hdr := dr_row (r := rw_ rows ii) (t := tailr rows ii) (j := js.getD k 0) (by omega)
    have hx1 := he ii hii (js.getD k 0) hkj
    have hb1 := hbnd (pn u k) (by omega)
    have hb2 := hbnd (pn u k + 1) (by omega)
    have hs1 := has (pn u k + 1)
    have hs0' := has (pn u k)
    have ih := fun R => f137 hA hl hiv hjv hi hc hj hp9 he hil hjl hrl (L := L) is' (i + 1) (u.set k true) R (by rw [← List.drop_drop, hd]; rfl) (by simp at hpl ⊢; omega) (by simpa using hu)
    rw [q3] at ih
    have hM := (minor_bnd hc (is := is') (us := (unu js u).eraseIdx (pn u k)) (fun x hx => hoI x (by simp [hx])) (hus.sub (List.eraseIdx_sublist _ _))).1
    have hent : ent rows ii ((unu js u).getD (pn u k) 0) = (rw_ rows ii).getD (js.getD k 0) 0 := by rw [q2]; rfl
    have hnx : altS (fun p => ent rows ii ((unu js u).getD p 0) * minorF (ent rows) is' ((unu js u).eraseIdx p)) (pn u k + 1) = altS (fun p => ent rows ii ((unu js u).getD p 0) * minorF (ent rows) is' ((unu js u).eraseIdx p)) (pn u k) + sg (pn u k) * ((rw_ rows ii).getD (js.getD k 0) 0 * minorF (ent rows) is' ((unu js u).eraseIdx (pn u k))) := by
     simp only [altS, hent]
    have hsg := sg_succ (pn u k)
    have hso := sg_or (pn u k)
    have hPn := prodB_nn rows hc is'
    have ha1 := asum_succ (rows := rows) (i := ii) q1
    have ha0 := asum_nn (rows := rows) (i := ii) (us := unu js u) (pn u k)
    rw [hent] at ha1
    have hax := Int.mul_le_mul_of_nonneg_right (show absI ((rw_ rows ii).getD (js.getD k 0) 0) ≤ c * rsum (rw_ rows ii) by omega) hPn
    rw [← hpe] at hax
    obtain ⟨hc1, hc2⟩ := abs_mul (x := (rw_ rows ii).getD (js.getD k 0) 0) hM
    have hr1 := Int.mul_le_mul_of_nonneg_right hs1 hPn
    have hr0 := Int.mul_le_mul_of_nonneg_right hs0' hPn
    rw [← hpe] at hr1 hr0
    rw [← hps] at hnx hsg hb2 hr1
    rw [← hS0, ← hs0] at hnx
    rw [← hS0] at hb1
    rw [← hs0] at hsg hso
    generalize hS1 : altS (fun p => ent rows ii ((unu js u).getD p 0) * minorF (ent rows) is' ((unu js u).eraseIdx p)) (pn u (k + 1)) = S1 at *
    generalize minorF (ent rows) is' ((unu js u).eraseIdx (pn u k)) = M at *
    generalize hxx : (rw_ rows ii).getD (js.getD k 0) 0 = x at *
    generalize hs1g : sg (pn u (k + 1)) = s1 at *
    have hxM : s0 * x * M = s0 * (x * M) := Int.mul_assoc _ _ _
    have hsx : -1000000000 ≤ s0 * x ∧ s0 * x ≤ 1000000000 := by rcases hso with h | h <;> rw [h] <;> omega
    have hdiff : s0 * x * M = S1 - S0 := by omega
    have hneg : -s0 = s1 := by omega
    have hfin : -9000000000000000000 ≤ s0 * x * M ∧ s0 * x * M ≤ 9000000000000000000 := by rw [hxM]; rcases hso with h | h <;> rw [h] <;> omega
    have hfin2 : -9000000000000000000 ≤ S0 + s0 * x * M ∧ S0 + s0 * x * M ≤ 9000000000000000000 := by omega
    by_cases hx0 : x = 0
    ·have hx01 := hx0
     have hSS : S1 = S0 := by rw [hx0, Int.mul_zero, Int.zero_mul] at hdiff; omega
     repeat' (first | (refine WO.opE (by intro; simp (disch := first | omega | (simp only [hA.len])) only [go_sem, l1, l3, l4, lu, hat1, hat2, hrow, hdr, ia_sref, hub, Nat.mul_one, Int.zero_sub]; rfl) (by simp only [pt8, pt0, pt1, pt2, pt3, pt4, pt5, pt6, pt7]; rfl) ?_) | (refine WC.seq ?_) | (refine WC.region ?_) | (refine WO.nil ?_) | (simp only [fl1, fl10]) | (refine WC.calm rfl ?_) | (refine WC.no rfl ?_) | (refine WC.skip ?_) | (refine WC.block ?_) | (refine WC.em2 rfl (fun hp => ?_) (fun hp => ?_) <;> try (exfalso; first | omega | contradiction)))
     exact ⟨m - 1, by omega, _, k + 1, S0, -s0, rfl, rfl, rfl, rfl, rfl, rfl, rfl, rfl, rfl, rfl, rfl, rfl, rfl, by omega, by rw [hS1]; exact hSS.symm, by rw [hs1g]; exact hneg⟩
    ·have hx01 := hx0
     repeat' (first | (refine WO.opE (by intro; simp (disch := first | omega | (simp only [hA.len])) only [go_sem, l1, l3, l4, l5, lu, hat1, hat2, hrow, hdr, ia_sref, hub, Nat.mul_one]; rfl) (by simp only [pt8, pt0, pt1, pt2, pt3, pt4, pt5, pt6, pt7]; rfl) ?_) | (refine WO.opN (by intro; simp (disch := first | omega | (simp only [hA.len])) only [go_sem, lu, hover, hA.su]; rfl) ?_) | (refine WC.seq ?_) | (refine WC.region ?_) | (refine WO.nil ?_) | (simp only [fl1]) | (refine WC.calm rfl ?_) | (refine WC.no rfl ?_) | (refine WC.skip ?_) | (refine WC.block ?_) | (refine WC.em2 rfl (fun hp => ?_) (fun hp => ?_) <;> try (exfalso; first | omega | contradiction)))
     refine WO.call rfl rfl ((ih R).mono ?_)
     rintro v m' ⟨rfl, rfl⟩
     simp only [pt8, pt1]
     repeat' (first | (refine WO.opE (by intro; simp (disch := first | omega | (simp only [hA.len])) only [go_sem, l3, ia_sref, Nat.mul_one, Int.zero_sub]; rfl) (by simp only [pt8, pt0, pt1, pt2, pt3, pt4, pt5, pt6, pt7]; rfl) ?_) | (refine WO.opN (by intro; simp (disch := first | omega | (simp only [hA.len])) only [go_sem, lu, hover2, hA.su]; rfl) ?_) | (refine WC.region ?_) | (refine WO.nil ?_) | (simp only [fl10]))
     exact ⟨m - 1, by omega, _, k + 1, S0 + s0 * x * M, -s0, rfl, rfl, rfl, rfl, rfl, rfl, rfl, rfl, rfl, rfl, rfl, rfl, rfl, by omega, by rw [hS1]; omega, by rw [hs1g]; exact hneg⟩
  ·have hke : k = js.length := by omega
   subst hke
   repeat' (first | (refine WO.opE (by intro; simp (disch := omega) only [go_sem]; rfl) (by simp only [pt8, pt2, pt4, pt7]; rfl) ?_) | (refine WC.seq ?_) | (refine WC.region ?_) | (refine WO.nil ?_) | (simp only [fl1]) | (refine WC.exit ?_) | (refine WC.ret ?_) | (refine WC.em2 rfl (fun hp => ?_) (fun hp => ?_) <;> try (exfalso; first | omega | contradiction)))
   refine ⟨_, rfl, ?_, rfl⟩
   simp only [oneRes, gt7]
   rw [hS0, ← hu, hpl0]
   rfl
theorem zeros_b (n : Nat) : zeros [AV.bool false] n = (List.replicate n false).map .bool := by
 induction n with
 | zero => rfl
 | succ n ih => rw [zeros, ih]; rfl
theorem NatS.cells {x : AV} {l : List Nat} (h : NatS x l) : x.cells = some [x] := IntS.cells h
theorem f104 {l iv jv : AV} {rows : List (List Int)} {is js : List Nat} (hl : RwL l rows) (hiv : NatS iv is) (hjv : NatS jv js) (hi : okI rows is) {c : Int} (hc : 0 ≤ c) (hj : okW rows c js) (hp9 : okP rows c is) (he : ∀ i, i < rows.length → okE (rw_ rows i)) (hil : is.length < 1000000) (hjl : js.length < 1000000) (hrl : rows.length < 9223372036854775807) :
  WF G0 (.func 104 [] []) [l, iv, jv] ⟨[], []⟩ fun v m' => v = .int .i64 (minorF (ent rows) is js) := by
 have hlc := SL.cells hl
 have hic := hiv.cells
 have hjc := hjv.cells
 unfold AV.cells at hlc hic hjc
 have hjvl := hjv.len
 refine WF.fnE rfl (fn_of Try.func104 cir104) (by show 3 ≤ 15; decide) ?_
 unfold ir104
 simp only [padTo, List.replicate, zNA, zAN]
 repeat' (first | (refine WO.opE (by intro; simp (disch := omega) only [go_sem, Zz.look, Nat.reduceAdd, hlc, hic, hjc, List.map_cons, List.map_nil, if_pos, zeros_b]; rfl) (by simp only [pt8, pt0, pt1, pt3, pt4, pt5, pt6, pt7]; rfl) ?_) | (refine WO.opN (by intro; simp (disch := omega) only [go_sem, Zz.look, ov_one0]; rfl) ?_) | (refine WO.opE (by intro; exact ev_lenS (by simp only [go_sem]; first | rfl | assumption)) (by simp only [pt8, pt2]; rfl) ?_) | (refine WC.seq ?_) | (refine WC.region ?_) | (refine WO.nil ?_) | (simp only [fl1]))
 have hA : MF (fun u => [some ⟨0, [l]⟩, some ⟨0, [iv]⟩, some ⟨0, [jv]⟩, some ⟨0, u.map .bool⟩, some ⟨0, [.sref 3 0 0 1 js.length (some js.length)]⟩, some ⟨0, [.func 137 [] [.pref 1 0 0, .pref 2 0 0, .pref 4 0 0, .pref 0 0 0, .pref 5 0 0]]⟩]) l iv jv js.length 6 1 2 4 0 5 3 :=
  ⟨fun _ => rfl, fun _ _ => rfl, fun _ _ => rfl, fun _ _ => rfl, fun _ _ => rfl, fun _ _ => rfl, fun _ _ => rfl, fun _ _ _ => rfl⟩
 have h63 := f137 hA hl hiv hjv hi hc hj hp9 he hil hjl hrl (L := []) is 0 (List.replicate js.length false) [] rfl (by omega) (by simp)
 rw [unu_none] at h63
 refine WO.call rfl rfl (h63.mono ?_)
 rintro v m' ⟨rfl, rfl⟩
 simp only [pt8, pt6]
 repeat' (first | (refine WO.opE (by intro; simp (disch := omega) only [go_sem]; rfl) (by simp only [pt6]; rfl) ?_) | (refine WO.nil ?_) | (refine WC.ret ?_))
 exact ⟨_, rfl, rfl⟩
theorem s104 {l l' iv jv iv' jv' : AV} {rows : List (List Int)} {is js : List Nat} (hl : RwL l rows) (hiv : NatS iv is) (hjv : NatS jv js) (hi : okI rows is) {c : Int} (hc : 0 ≤ c) (hj : okW rows c js) (hp9 : okP rows c is) (he : ∀ i, i < rows.length → okE (rw_ rows i)) (hil : is.length < 1000000) (hjl : js.length < 1000000) (hrl : rows.length < 9223372036854775807) {m : Mem} (h0 : Zz.byVal m.heap l' = some l) (h1 : Zz.byVal m.heap iv' = some iv) (h2 : Zz.byVal m.heap jv' = some jv) :
  borrowX G0 104 [l', iv', jv'] m = some (.int .i64 (minorF (ent rows) is js), m) :=
 borrowX_of (byVals_cons h0 (byVals_cons h1 (byVals_cons h2 rfl))) ((f104 hl hiv hjv hi hc hj hp9 he hil hjl hrl).mono fun y m' h => by rw [h]; rfl)
noncomputable def E4 : Env := E3.put 104 (borrowX G0 104)
theorem E4_ok : EnvOk Try.prog E4 := Env.put_ok E3_ok (borrowX_ok G0_ok (callable Try.func104 (by kernel_rfl)))
def ncells (l : List Nat) : List AV := (l.map Int.ofNat).map (.int .i64)
theorem ncells_len (l : List Nat) : (ncells l).length = l.length := by simp [ncells]
theorem ncells_app (a b : List Nat) : ncells (a ++ b) = ncells a ++ ncells b := by simp [ncells]
theorem ncells_take (l : List Nat) (k : Nat) : (ncells l).take k = ncells (l.take k) := by simp [ncells, List.map_take]
theorem ncells_drop (l : List Nat) (k : Nat) : (ncells l).drop k = ncells (l.drop k) := by simp [ncells, List.map_drop]
theorem ncells_get {l : List Nat} {k : Nat} (h : k < l.length) : (ncells l)[k]? = some (.int .i64 ((l.getD k 0 : Nat) : Int)) := by
 simp [ncells, h]
def JS (H : Hp) (x : AV) (l : List Nat) : Prop := NatS x l ∨ ∃ q g cap, x = .sref q g 0 1 l.length cap ∧ Zz.look H q g = some (ncells l) ∧ (cap = none ∨ cap = some l.length)
def Ext (H H' : Hp) : Prop := H.length ≤ H'.length ∧ ∀ j, j < H.length → H'[j]? = H[j]?
theorem Ext.refl (H : Hp) : Ext H H := ⟨Nat.le_refl _, fun _ _ => rfl⟩
theorem Ext.app (H R : Hp) : Ext H (H ++ R) := ⟨by simp, fun j hj => List.getElem?_append_left hj⟩
theorem Ext.trans {A B C : Hp} (h : Ext A B) (h' : Ext B C) : Ext A C := ⟨Nat.le_trans h.1 h'.1, fun j hj => by rw [h'.2 j (by have := h.1; omega), h.2 j hj]⟩
theorem Ext.look {H H' : Hp} (h : Ext H H') {q g : Nat} {c : List AV} (hl : Zz.look H q g = some c) : Zz.look H' q g = some c := by
 rw [look_of_get (h.2 q (look_lt hl))]
 exact hl
theorem Ext.split {H H' : Hp} (h : Ext H H') : ∃ R, H' = H ++ R := by
 refine ⟨H'.drop H.length, ?_⟩
 apply List.ext_getElem?
 intro j
 by_cases hj : j < H.length
 ·rw [List.getElem?_append_left hj, h.2 j hj]
 ·rw [List.getElem?_append_right (by omega), List.getElem?_drop]
  congr 1
  omega
theorem JS.ext {H H' : Hp} {x : AV} {l : List Nat} (h : JS H x l) (he : Ext H H') : JS H' x l := by
 rcases h with h | ⟨q, g, cap, rfl, h1, h2⟩
 ·exact .inl h
 ·exact .inr ⟨q, g, cap, rfl, he.look h1, h2⟩
theorem scells_ext {H H' : Hp} {y : AV} {c : List AV} (he : Ext H H') (h : scells H 1 y = some c) : scells H' 1 y = some c := by
 cases y <;> first | exact h | skip
 rename_i id g off sz n cap
 simp only [scells] at h ⊢
 split at h
 ·rename_i e
  rw [if_pos e]
  simp only [Option.bind_eq_some_iff] at h ⊢
  obtain ⟨l, h1, h2⟩ := h
  exact ⟨l, he.look h1, h2⟩
 ·cases h
theorem JS.len {H : Hp} {x : AV} {l : List Nat} (h : JS H x l) : slen x = some l.length := by
 rcases h with h | ⟨q, g, cap, rfl, h1, h2⟩
 ·exact h.len
 ·rfl
theorem JS.at {H : Hp} {x : AV} {l : List Nat} (h : JS H x l) {k : Nat} (hk : k < l.length) : ∃ y, indexAddrAV 1 x (.int .i64 (k : Int)) = some y ∧ loadAV H false 1 y = some (.int .i64 ((l.getD k 0 : Nat) : Int)) ∧ (match y with | .pref id _ _ => id < H.length | _ => True) := by
 rcases h with h | ⟨q, g, cap, rfl, h1, h2⟩
 ·obtain ⟨t, ht⟩ := h.at hk
  exact ⟨_, ht, rfl, trivial⟩
 ·refine ⟨.pref q g (0 + k * 1), by rw [ia_sref, idx_nat hk]; rfl, ?_, look_lt h1⟩
  show (Zz.look H q g).bind _ = _
  rw [h1]
  show loadCs false 1 (ncells l) (0 + k * 1) = _
  rw [Nat.mul_one, Nat.zero_add]
  exact ncells_get hk
theorem JS.take {H : Hp} {x : AV} {l : List Nat} (h : JS H x l) {k : Nat} (hk : k ≤ l.length) : ∃ y, sliceAV H 1 x none (some (.int .i64 (k : Int))) none = some y ∧ slen y = some k ∧ scells H 1 y = some (ncells (l.take k)) := by
 rcases h with (⟨rfl, h0⟩ | ⟨f, rfl⟩) | ⟨q, g, cap, rfl, h1, h2⟩
 ·have e : l = [] := by simpa using h0
  subst e
  have hk0 : k = 0 := by simpa using hk
  subst hk0
  exact ⟨.snil, rfl, rfl, rfl⟩
 ·have hl : (l.map Int.ofNat).length = l.length := by simp
  have hc : ((l.map Int.ofNat).map (AV.int .i64)) = ncells l := rfl
  rw [hl, hc]
  refine ⟨.sval (match (if f = true then some l.length else none : Option Nat) with | some c => c == k | none => false) k ((ncells l).take k), ?_, rfl, ?_⟩
  ·simp only [sliceAV, ncells_len, Nat.mul_one, if_true, bnds, bndO, bnd]
   have hcp : (if f = true then some l.length else none : Option Nat).getD l.length = l.length := by cases f <;> rfl
   rw [hcp, if_pos ⟨by omega, by omega⟩]
   simp
   cases f <;> rfl
  ·simp only [scells]
   rw [ncells_take, ncells_len, List.length_take, if_pos (by omega)]
 ·rcases h2 with rfl | rfl
  ·refine ⟨.sref q g 0 1 k none, ?_, rfl, ?_⟩
   ·have hkc : kcap H 1 q g 0 l.length = l.length := by
     simp only [kcap, h1, ncells_len]
     omega
    simp only [sliceAV, if_true, Option.isNone, Option.isSome, Bool.and_self, hkc, bnds, bndO, bnd, Option.getD_none]
    rw [if_pos ⟨by omega, by omega⟩]
    simp
   ·simp only [scells, if_true, h1, Option.bind_some, Zz.cut]
    rw [if_pos (by rw [ncells_len]; omega), List.drop_zero, Nat.mul_one, ncells_take]
  ·refine ⟨.sref q g 0 1 k (some l.length), ?_, rfl, ?_⟩
   ·simp only [sliceAV, if_true, Option.isNone, Bool.false_and, Bool.false_eq_true, if_false, bnds, bndO, bnd, Option.getD_some]
    rw [if_pos ⟨by omega, by omega⟩]
    simp
   ·simp only [scells, if_true, h1, Option.bind_some, Zz.cut]
    rw [if_pos (by rw [ncells_len]; omega), List.drop_zero, Nat.mul_one, ncells_take]
theorem JS.drop {H : Hp} {x : AV} {l : List Nat} (h : JS H x l) {k : Nat} (hk : k ≤ l.length) : ∃ y, (∀ H', sliceAV H' 1 x (some (.int .i64 (k : Int))) none none = some y) ∧ slen y = some (l.length - k) ∧ scells H 1 y = some (ncells (l.drop k)) := by
 rcases h with (⟨rfl, h0⟩ | ⟨f, rfl⟩) | ⟨q, g, cap, rfl, h1, h2⟩
 ·have e : l = [] := by simpa using h0
  subst e
  have hk0 : k = 0 := by simpa using hk
  subst hk0
  exact ⟨.snil, fun _ => rfl, rfl, rfl⟩
 ·have hl : (l.map Int.ofNat).length = l.length := by simp
  have hc : ((l.map Int.ofNat).map (AV.int .i64)) = ncells l := rfl
  rw [hl, hc]
  refine ⟨.sval (match (if f = true then some l.length else none : Option Nat) with | some c => c == l.length | none => false) (l.length - k) ((ncells l).drop k), fun H' => ?_, rfl, ?_⟩
  ·simp only [sliceAV, ncells_len, Nat.mul_one, if_true, bnds, bndO, bnd]
   rw [if_pos ⟨by omega, by omega⟩]
   simp only [Option.map_some, Int.toNat_natCast]
   rw [List.take_of_length_le (by rw [List.length_drop, ncells_len]; omega)]
   cases f <;> rfl
  ·simp only [scells]
   rw [ncells_drop, ncells_len, List.length_drop, if_pos (by omega)]
 ·rcases h2 with rfl | rfl
  ·by_cases hk0 : k = 0
   ·subst hk0
    refine ⟨.sref q g 0 1 l.length none, fun H' => ?_, rfl, ?_⟩
    ·simp only [sliceAV, if_true, Option.isSome, Bool.and_false, Bool.false_eq_true, if_false, bnds, bndO, bnd]
     rw [if_pos ⟨by omega, by omega⟩]
     simp
    ·simp only [scells, if_true, h1, Option.bind_some, Zz.cut]
     rw [if_pos (by rw [ncells_len]; omega), List.drop_zero, List.drop_zero, Nat.mul_one, List.take_of_length_le (by rw [ncells_len]; omega)]
   ·by_cases hkl : l.length - k = 0
    ·refine ⟨.sval false 0 [], fun H' => ?_, by rw [hkl]; rfl, ?_⟩
     ·simp only [sliceAV, if_true, Option.isSome, Bool.and_false, Bool.false_eq_true, if_false, bnds, bndO, bnd]
      rw [if_pos ⟨by omega, by omega⟩]
      simp only [Option.bind_some, Int.toNat_natCast]
      rw [if_neg hk0, if_pos hkl]
     ·rw [List.drop_eq_nil_of_le (by omega)]
      rfl
    ·refine ⟨.sref q g (0 + k * 1) 1 (l.length - k) none, fun H' => ?_, rfl, ?_⟩
     ·simp only [sliceAV, if_true, Option.isSome, Bool.and_false, Bool.false_eq_true, if_false, bnds, bndO, bnd]
      rw [if_pos ⟨by omega, by omega⟩]
      simp only [Option.bind_some, Int.toNat_natCast]
      rw [if_neg hk0, if_neg hkl]
     ·simp only [scells, if_true, h1, Option.bind_some, Zz.cut]
      rw [if_pos (by rw [ncells_len]; omega), Nat.mul_one, Nat.zero_add, Nat.mul_one, ncells_drop, List.take_of_length_le (by rw [ncells_len, List.length_drop]; omega)]
  ·refine ⟨.sref q g (if l.length = k then 0 else 0 + k * 1) 1 (l.length - k) (some (l.length - k)), fun H' => ?_, rfl, ?_⟩
   ·simp only [sliceAV, if_true, Option.isNone, Bool.false_and, Bool.false_eq_true, if_false, bnds, bndO, bnd]
    rw [if_pos ⟨by omega, by omega⟩]
    simp
   ·simp only [scells, if_true, h1, Option.bind_some, Zz.cut]
    by_cases e : l.length = k
    ·rw [if_pos e, if_pos (by rw [ncells_len]; omega)]
     subst e
     simp [ncells]
    ·rw [if_neg e, if_pos (by rw [ncells_len]; omega), Nat.mul_one, Nat.zero_add, Nat.mul_one, ncells_drop, List.take_of_length_le (by rw [ncells_len, List.length_drop]; omega)]
theorem JS.of_gs {H : Hp} {v : AV} {q : Nat} {l : List Nat} (h : GS 1 H v q (ncells l)) : JS H v l := by
 rcases h with ⟨rfl, h1⟩ | ⟨g, rfl, h1, h2⟩ | ⟨g, n, rfl, h1, h2, h3⟩
 ·have : l = [] := by simpa [ncells] using h1
  subst this
  exact .inl IntS.nil
 ·have : l = [] := by simpa [ncells] using h1
  subst this
  exact .inr ⟨q, g, _, rfl, by rw [h2]; rfl, .inr rfl⟩
 ·rw [ncells_len, Nat.mul_one] at h1
  subst h1
  exact .inr ⟨q, g, _, rfl, h3, .inl rfl⟩
end Go.Proofs.Ytnilimjkibimcaa

