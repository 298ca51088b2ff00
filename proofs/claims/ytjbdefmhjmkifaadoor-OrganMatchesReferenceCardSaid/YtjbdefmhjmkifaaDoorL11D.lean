import Derived.Test.YtjbdefmhjmkifaaDoorL11C

set_option linter.unusedSimpArgs false
set_option linter.unusedVariables false
namespace Go.Proofs.YtjbdefmhjmkifaaDoor
open Go.Zz
set_option maxRecDepth 100000
set_option maxHeartbeats 2000000
theorem s81 {a b c d e f : Int} (hs : Small [a, b, c, d, e, f]) {m : Mem} : borrowE E18 81 [.agg [.int .i64 a, .int .i64 b, .int .i64 c, .int .i64 d, .int .i64 e, .int .i64 f]] m = some (.agg [.int .i64 (eLo [a, b, c, d, e, f] 6), .int .i64 (eHi [a, b, c, d, e, f] 6)], m) :=
  borrowE_of rfl ((f81 (es := [a, b, c, d, e, f]) rfl hs).mono fun y m' h => by rw [h]; rfl)

noncomputable def E19 : Env := E18.put 81 (borrowE E18 81)
theorem E19_ok : EnvOk Tryd.prog E19 := Env.put_ok E18_ok (borrowE_ok E18_ok (callable Tryd.func81 (by kernel_rfl)))
/-- Six exponents. -/
structure V6 where
  x0 : Int
  x1 : Int
  x2 : Int
  x3 : Int
  x4 : Int
  x5 : Int
  deriving Inhabited, DecidableEq
def V6.cells (v : V6) : List AV := [.int .i64 v.x0, .int .i64 v.x1, .int .i64 v.x2, .int .i64 v.x3, .int .i64 v.x4, .int .i64 v.x5]
def V6.l (v : V6) : List Int := [v.x0, v.x1, v.x2, v.x3, v.x4, v.x5]
def V6.ok (v : V6) (m : Int) : Prop := wi6 v.x0 v.x1 v.x2 v.x3 v.x4 v.x5 m
instance (v : V6) (m : Int) : Decidable (v.ok m) := by unfold V6.ok; infer_instance
def Pipe.p (p : Pipe) : V6 := ⟨p.p0, p.p1, p.p2, p.p3, p.p4, p.p5⟩
def V6.sub (a b : V6) : V6 := ⟨a.x0 - b.x0, a.x1 - b.x1, a.x2 - b.x2, a.x3 - b.x3, a.x4 - b.x4, a.x5 - b.x5⟩
def V6.of (v : V6) : V6 := ⟨v.x0 * 12, v.x1 * 12, v.x2 * 12, v.x3 * 12, v.x4 * 12, v.x5 * 12⟩
theorem V6.small {v : V6} {m : Int} (h : v.ok m) (hm : m ≤ 1200) : Small v.l := by
  obtain ⟨a1, a2, b1, b2, c1, c2, d1, d2, e1, e2, f1, f2⟩ := h
  intro i hi
  rcases cases6 hi with rfl | rfl | rfl | rfl | rfl | rfl <;> simp [V6.l] <;> omega
theorem sub_ok {a b : V6} (ha : a.ok 576) (hb : b.ok 576) : (a.sub b).ok 1152 := by
  obtain ⟨a1, a2, a3, a4, a5, a6, a7, a8, a9, a10, a11, a12⟩ := ha
  obtain ⟨b1, b2, b3, b4, b5, b6, b7, b8, b9, b10, b11, b12⟩ := hb
  refine ⟨?_, ?_, ?_, ?_, ?_, ?_, ?_, ?_, ?_, ?_, ?_, ?_⟩ <;> simp only [V6.sub] <;> omega
theorem of_ok {v : V6} (hv : v.ok 48) : v.of.ok 576 := by
  obtain ⟨a1, a2, a3, a4, a5, a6, a7, a8, a9, a10, a11, a12⟩ := hv
  refine ⟨?_, ?_, ?_, ?_, ?_, ?_, ?_, ?_, ?_, ?_, ?_, ?_⟩ <;> simp only [V6.of] <;> omega
def gLo (a b : V6) : Int := eLo (a.sub b).l 6
def gHi (a b : V6) : Int := eHi (a.sub b).l 6
def gapV (a b : V6) : AV := if a.ok 576 ∧ b.ok 576 then .tuple [.agg [.int .i64 (gLo a b), .int .i64 (gHi a b)], .int .i64 0] else .tuple [.agg [.int .i64 0, .int .i64 0], .int .i64 1]
/-- Gap. -/
theorem f77 {a b : V6} : WF E19 (.func 77 [] []) [.agg a.cells, .agg b.cells] ⟨[], []⟩ fun y m' => y = gapV a b := by
  by_cases hok : a.ok 576 ∧ b.ok 576
  · have hs := V6.small (sub_ok hok.1 hok.2) (by omega)
    obtain ⟨ha, hb⟩ := hok
    have e : gapV a b = .tuple [.agg [.int .i64 (gLo a b), .int .i64 (gHi a b)], .int .i64 0] := if_pos ⟨ha, hb⟩
    rw [e]
    obtain ⟨a0, a1, a2, a3, a4, a5⟩ := a
    obtain ⟨b0, b1, b2, b3, b4, b5⟩ := b
    have h1 : wi6 a0 a1 a2 a3 a4 a5 576 := ha
    have h2 : wi6 b0 b1 b2 b3 b4 b5 576 := hb
    have h1' := h1
    have h2' := h2
    unfold wi6 at h1' h2'
    have hs' : Small [a0 - b0, a1 - b1, a2 - b2, a3 - b3, a4 - b4, a5 - b5] := hs
    refine WF.fnE rfl (fn_of Tryd.func77 cir77) (by show 2 ≤ 30; decide) ?_
    unfold ir77
    simp only [padTo, List.replicate, List.nil_append, List.append_nil, List.cons_append]
    repeat' (first | (refine WO.yes rfl ?_) | (refine WO.opE (by intro; simp (disch := omega) only [go_sem, zeros, Zz.look, Zz.cut, List.append_assoc, List.length_append, ov_one0, ov_one1, ov_one2, ov_one3, ov_one4, ov_one5, ov_all2, ov_all6, Nat.reduceAdd, Nat.reduceMul, Nat.reduceSub, Nat.reduceLeDiff, Nat.reduceEqDiff, Int.reduceNeg, Int.reduceAdd, Int.reduceToNat, reduceIte, reduceCtorEq, V6.cells, idx]; rfl) (by simp only [pt8, pt0, pt1, pt2, pt3, pt4, pt5, pt6, pt7]; rfl) ?_) | (refine WO.opN (by intro; simp (disch := omega) only [go_sem, zeros, Zz.look, Zz.cut, List.append_assoc, List.length_append, ov_one0, ov_one1, ov_one2, ov_one3, ov_one4, ov_one5, ov_all2, ov_all6, Nat.reduceAdd, Nat.reduceMul, Nat.reduceSub, Nat.reduceLeDiff, Nat.reduceEqDiff, Int.reduceNeg, Int.reduceAdd, Int.reduceToNat, reduceIte, reduceCtorEq, V6.cells, idx]; rfl) ?_) | (refine WO.specE rfl rfl (s40) (by simp only [pt8, pt0, pt1, pt2, pt3, pt4, pt5, pt6, pt7]; rfl) ?_) | (refine WO.specE rfl rfl (s81 hs') (by simp only [pt8, pt0, pt1, pt2, pt3, pt4, pt5, pt6, pt7]; rfl) ?_) | (refine WC.loop ?_) | (refine WC.seq ?_) | (refine WC.region ?_) | (refine WO.nil ?_) | (simp only [fl1, fl2, fl3, fl4, fl5, fl6, fl7, fl8, fl9, fl10, Nat.reduceBEq]) | (refine WC.calm rfl ?_) | (refine WC.yes rfl ?_) | (refine WC.no rfl ?_) | (refine WC.skip ?_) | (refine WC.exit ?_) | (refine WC.ret ?_) | (refine WC.block ?_) | (refine WO.em2 rfl (by intro hp; simp only [hp, decide_true]; rfl) (by intro hp; simp only [hp, decide_false]; rfl) (fun hp => ?_) (fun hp => ?_) <;> try (exfalso; first | omega | contradiction)) | (refine WC.em2 rfl (fun hp => ?_) (fun hp => ?_) <;> try (exfalso; first | omega | contradiction)))
    exact ⟨_, rfl, rfl⟩
  · have e : gapV a b = .tuple [.agg [.int .i64 0, .int .i64 0], .int .i64 1] := if_neg hok
    rw [e]
    obtain ⟨a0, a1, a2, a3, a4, a5⟩ := a
    obtain ⟨b0, b1, b2, b3, b4, b5⟩ := b
    have hok2 : ¬ (wi6 a0 a1 a2 a3 a4 a5 576 ∧ wi6 b0 b1 b2 b3 b4 b5 576) := hok
    refine WF.fnE rfl (fn_of Tryd.func77 cir77) (by show 2 ≤ 30; decide) ?_
    unfold ir77
    simp only [padTo, List.replicate, List.nil_append, List.append_nil, List.cons_append]
    repeat' (first | (refine WO.yes rfl ?_) | (refine WO.noE rfl (by simp only [pt8, pt0, pt1, pt2, pt3, pt4, pt5, pt6, pt7]; rfl) ?_) | (refine WO.opE (by intro; simp (disch := omega) only [go_sem, zeros, Zz.look, Zz.cut, List.append_assoc, List.length_append, ov_one0, ov_one1, ov_one2, ov_one3, ov_one4, ov_one5, ov_all2, ov_all6, Nat.reduceAdd, Nat.reduceMul, Nat.reduceSub, Nat.reduceLeDiff, Nat.reduceEqDiff, Int.reduceNeg, Int.reduceAdd, Int.reduceToNat, reduceIte, reduceCtorEq, V6.cells, idx]; rfl) (by simp only [pt8, pt0, pt1, pt2, pt3, pt4, pt5, pt6, pt7]; rfl) ?_) | (refine WO.opN (by intro; simp (disch := omega) only [go_sem, zeros, Zz.look, Zz.cut, List.append_assoc, List.length_append, ov_one0, ov_one1, ov_one2, ov_one3, ov_one4, ov_one5, ov_all2, ov_all6, Nat.reduceAdd, Nat.reduceMul, Nat.reduceSub, Nat.reduceLeDiff, Nat.reduceEqDiff, Int.reduceNeg, Int.reduceAdd, Int.reduceToNat, reduceIte, reduceCtorEq, V6.cells, idx]; rfl) ?_) | (refine WO.specE rfl rfl (s40) (by simp only [pt8, pt0, pt1, pt2, pt3, pt4, pt5, pt6, pt7]; rfl) ?_) | (refine WC.seq ?_) | (refine WC.region ?_) | (refine WO.nil ?_) | (simp only [fl1, fl2, fl3, fl4, fl5, fl6, fl7, fl8, fl9, fl10, Nat.reduceBEq]) | (refine WC.yes rfl ?_) | (refine WC.skip ?_) | (refine WC.ret ?_) | (refine WC.block ?_) | (refine WO.em2 rfl (by intro hp; simp only [hp, decide_true]; rfl) (by intro hp; simp only [hp, decide_false]; rfl) (fun hp => ?_) (fun hp => ?_) <;> try (exfalso; first | omega | contradiction)) | (refine WC.em2 rfl (fun hp => ?_) (fun hp => ?_) <;> try (exfalso; first | omega | contradiction)))
    all_goals first
      | exact ⟨_, rfl, rfl⟩
      | exact absurd ⟨Decidable.of_not_not ‹_›, Decidable.of_not_not ‹_›⟩ hok2
theorem V6.pure (v : V6) : Zz.pureA (.agg v.cells) = true := rfl
theorem gapV_res (a b : V6) (H : Hp) : resV H (gapV a b) = some (gapV a b) := by unfold gapV; split <;> rfl
theorem s77 {a b : V6} {m : Mem} : borrowE E19 77 [.agg a.cells, .agg b.cells] m = some (gapV a b, m) := borrowE_of rfl (f77.mono fun y m' h => by rw [h]; exact gapV_res a b _)

noncomputable def E20 : Env := E19.put 77 (borrowE E19 77)
theorem E20_ok : EnvOk Tryd.prog E20 := Env.put_ok E19_ok (borrowE_ok E19_ok (callable Tryd.func77 (by kernel_rfl)))
def sur (lo hi low high : Int) : Int := if low ≤ lo ∧ hi ≤ high then 1 else if hi < low ∨ lo > high then -1 else 0
theorem f84 {lo hi low high : Int} : WF E20 (.func 84 [] []) [.agg [.int .i64 lo, .int .i64 hi], .int .i64 low, .int .i64 high] ⟨[], []⟩ fun y m' => y = .int .i64 (sur lo hi low high) := by
  refine WF.fnE rfl (fn_of Tryd.func84 cir84) (by show 3 ≤ 29; decide) ?_
  unfold ir84
  simp only [padTo, List.replicate, List.nil_append, List.append_nil, List.cons_append]
  repeat' (first | (refine WO.yes rfl ?_) | (refine WO.noE rfl (by simp only [pt8, pt0, pt1, pt2, pt3, pt4, pt5, pt6, pt7]; rfl) ?_) | (refine WO.opE (by intro; simp (disch := omega) only [go_sem, zeros, Zz.look, Zz.cut, List.append_assoc, List.length_append, ov_one0, ov_one1, ov_one2, ov_one3, ov_one4, ov_one5, ov_all2, ov_all6, Nat.reduceAdd, Nat.reduceMul, Nat.reduceSub, Nat.reduceLeDiff, Nat.reduceEqDiff, Int.reduceNeg, Int.reduceAdd, Int.reduceToNat, reduceIte, reduceCtorEq]; rfl) (by simp only [pt8, pt0, pt1, pt2, pt3, pt4, pt5, pt6, pt7]; rfl) ?_) | (refine WC.seq ?_) | (refine WC.region ?_) | (refine WO.nil ?_) | (simp only [fl1, fl2, fl3, fl4, fl5, fl6, fl7, fl8, fl9, fl10, Nat.reduceBEq]) | (refine WC.yes rfl ?_) | (refine WC.no rfl ?_) | (refine WC.skip ?_) | (refine WC.ret ?_) | (refine WC.block ?_) | (refine WO.em2 rfl (by intro hp; simp only [hp, decide_true]; rfl) (by intro hp; simp only [hp, decide_false]; rfl) (fun hp => ?_) (fun hp => ?_) <;> try (exfalso; first | omega | contradiction)) | (refine WC.em2 rfl (fun hp => ?_) (fun hp => ?_) <;> try (exfalso; first | omega | contradiction)))
  all_goals refine ⟨_, rfl, ?_⟩
  all_goals simp only [oneRes, gt8, gt0, gt1, gt2, gt3, gt4, gt5, gt6, gt7, AV.int.injEq, true_and]
  all_goals unfold sur
  all_goals (repeat' split) <;> omega
theorem s84 {lo hi low high : Int} {m : Mem} : borrowE E20 84 [.agg [.int .i64 lo, .int .i64 hi], .int .i64 low, .int .i64 high] m = some (.int .i64 (sur lo hi low high), m) := borrowE_of rfl (f84.mono fun y m' h => by rw [h]; rfl)

noncomputable def E21 : Env := E20.put 84 (borrowE E20 84)
theorem E21_ok : EnvOk Tryd.prog E21 := Env.put_ok E20_ok (borrowE_ok E20_ok (callable Tryd.func84 (by kernel_rfl)))
/-- Near. -/
theorem f82 {a b : V6} {bound : Int} (ha : a.ok 576) (hb : b.ok 576) (h0 : 0 ≤ bound) (h1 : bound ≤ 2400000) : WF E21 (.func 82 [] []) [.agg a.cells, .agg b.cells, .int .i64 bound] ⟨[], []⟩ fun y m' => y = .tuple [.int .i64 (sur (gLo a b) (gHi a b) (-10000 * bound) (10000 * bound)), .int .i64 0] := by
  have e : gapV a b = .tuple [.agg [.int .i64 (gLo a b), .int .i64 (gHi a b)], .int .i64 0] := if_pos ⟨ha, hb⟩
  have h77 := fun m => s77 (a := a) (b := b) (m := m)
  rw [e] at h77
  obtain ⟨a0, a1, a2, a3, a4, a5⟩ := a
  obtain ⟨b0, b1, b2, b3, b4, b5⟩ := b
  refine WF.fnE rfl (fn_of Tryd.func82 cir82) (by show 3 ≤ 32; decide) ?_
  unfold ir82
  simp only [padTo, List.replicate, List.nil_append, List.append_nil, List.cons_append]
  repeat' (first | (refine WO.yes rfl ?_) | (refine WO.opE (by intro; simp (disch := omega) only [go_sem, zeros, Zz.look, Zz.cut, List.append_assoc, List.length_append, ov_one0, ov_one1, ov_one2, ov_one3, ov_one4, ov_one5, ov_all2, ov_all6, Nat.reduceAdd, Nat.reduceMul, Nat.reduceSub, Nat.reduceLeDiff, Nat.reduceEqDiff, Int.reduceNeg, Int.reduceAdd, Int.reduceToNat, reduceIte, reduceCtorEq, V6.cells]; rfl) (by simp only [pt8, pt0, pt1, pt2, pt3, pt4, pt5, pt6, pt7]; rfl) ?_) | (refine WO.opN (by intro; simp (disch := omega) only [go_sem, zeros, Zz.look, Zz.cut, List.append_assoc, List.length_append, ov_one0, ov_one1, ov_one2, ov_one3, ov_one4, ov_one5, ov_all2, ov_all6, Nat.reduceAdd, Nat.reduceMul, Nat.reduceSub, Nat.reduceLeDiff, Nat.reduceEqDiff, Int.reduceNeg, Int.reduceAdd, Int.reduceToNat, reduceIte, reduceCtorEq, V6.cells]; rfl) ?_) | (refine WO.specE rfl rfl (h77 _) (by simp only [pt8, pt0, pt1, pt2, pt3, pt4, pt5, pt6, pt7]; rfl) ?_) | (refine WO.specE rfl rfl (s84) (by simp only [pt8, pt0, pt1, pt2, pt3, pt4, pt5, pt6, pt7]; rfl) ?_) | (refine WC.seq ?_) | (refine WC.region ?_) | (refine WO.nil ?_) | (simp only [fl1, fl2, fl3, fl4, fl5, fl6, fl7, fl8, fl9, fl10, Nat.reduceBEq]) | (refine WC.skip ?_) | (refine WC.ret ?_) | (refine WO.em2 rfl (by intro hp; simp only [hp, decide_true]; rfl) (by intro hp; simp only [hp, decide_false]; rfl) (fun hp => ?_) (fun hp => ?_) <;> try (exfalso; first | omega | contradiction)) | (refine WC.em2 rfl (fun hp => ?_) (fun hp => ?_) <;> try (exfalso; first | omega | contradiction)))
  exact ⟨_, rfl, rfl⟩
theorem s82 {a b : V6} {bound : Int} (ha : a.ok 576) (hb : b.ok 576) (h0 : 0 ≤ bound) (h1 : bound ≤ 2400000) {m : Mem} : borrowE E21 82 [.agg a.cells, .agg b.cells, .int .i64 bound] m = some (.tuple [.int .i64 (sur (gLo a b) (gHi a b) (-10000 * bound) (10000 * bound)), .int .i64 0], m) := borrowE_of rfl ((f82 ha hb h0 h1).mono fun y m' h => by rw [h]; rfl)

noncomputable def E22 : Env := E21.put 82 (borrowE E21 82)
theorem E22_ok : EnvOk Tryd.prog E22 := Env.put_ok E21_ok (borrowE_ok E21_ok (callable Tryd.func82 (by kernel_rfl)))
/-- Of. -/
theorem f76 {v : V6} (hv : v.ok 48) : WF E22 (.func 76 [] []) [.agg v.cells] ⟨[], []⟩ fun y m' => y = .tuple [.agg v.of.cells, .int .i64 0] := by
  obtain ⟨a0, a1, a2, a3, a4, a5⟩ := v
  have h1 : wi6 a0 a1 a2 a3 a4 a5 48 := hv
  have h1' := h1
  unfold wi6 at h1'
  refine WF.fnE rfl (fn_of Tryd.func76 cir76) (by show 1 ≤ 19; decide) ?_
  unfold ir76
  simp only [padTo, List.replicate, List.nil_append, List.append_nil, List.cons_append]
  repeat' (first | (refine WO.opE (by intro; simp (disch := omega) only [go_sem, zeros, Zz.look, Zz.cut, List.append_assoc, List.length_append, ov_one0, ov_one1, ov_one2, ov_one3, ov_one4, ov_one5, ov_all2, ov_all6, Nat.reduceAdd, Nat.reduceMul, Nat.reduceSub, Nat.reduceLeDiff, Nat.reduceEqDiff, Int.reduceNeg, Int.reduceAdd, Int.reduceToNat, reduceIte, reduceCtorEq, V6.cells, idx]; rfl) (by simp only [pt8, pt0, pt1, pt2, pt3, pt4, pt5, pt6, pt7]; rfl) ?_) | (refine WO.opN (by intro; simp (disch := omega) only [go_sem, zeros, Zz.look, Zz.cut, List.append_assoc, List.length_append, ov_one0, ov_one1, ov_one2, ov_one3, ov_one4, ov_one5, ov_all2, ov_all6, Nat.reduceAdd, Nat.reduceMul, Nat.reduceSub, Nat.reduceLeDiff, Nat.reduceEqDiff, Int.reduceNeg, Int.reduceAdd, Int.reduceToNat, reduceIte, reduceCtorEq, V6.cells, idx]; rfl) ?_) | (refine WO.specE rfl rfl (s50) (by simp only [pt8, pt0, pt1, pt2, pt3, pt4, pt5, pt6, pt7]; rfl) ?_) | (refine WC.loop ?_) | (refine WC.seq ?_) | (refine WC.region ?_) | (refine WO.nil ?_) | (simp only [fl1, fl2, fl3, fl4, fl5, fl6, fl7, fl8, fl9, fl10, Nat.reduceBEq]) | (refine WC.yes rfl ?_) | (refine WC.no rfl ?_) | (refine WC.skip ?_) | (refine WC.exit ?_) | (refine WC.ret ?_) | (refine WC.block ?_) | (refine WC.em2 rfl (fun hp => ?_) (fun hp => ?_) <;> try (exfalso; first | omega | contradiction)))
  exact ⟨_, rfl, rfl⟩
theorem s76 {v : V6} (hv : v.ok 48) {m : Mem} : borrowE E22 76 [.agg v.cells] m = some (.tuple [.agg v.of.cells, .int .i64 0], m) := borrowE_of rfl ((f76 hv).mono fun y m' h => by rw [h]; rfl)

noncomputable def E23 : Env := E22.put 76 (borrowE E22 76)
theorem E23_ok : EnvOk Tryd.prog E23 := Env.put_ok E22_ok (borrowE_ok E22_ok (callable Tryd.func76 (by kernel_rfl)))
/-- size.Of. -/
theorem f64 {v : V6} (hv : v.ok 576) : WF E23 (.func 64 [] []) [.agg v.cells] ⟨[], []⟩ fun y m' => y = .tuple [.agg [.int .i64 (eLo v.l 6), .int .i64 (eHi v.l 6)], .int .i64 0] := by
  have hs := V6.small hv (by omega)
  obtain ⟨a0, a1, a2, a3, a4, a5⟩ := v
  have h1 : wi6 a0 a1 a2 a3 a4 a5 576 := hv
  have hs' : Small [a0, a1, a2, a3, a4, a5] := hs
  refine WF.fnE rfl (fn_of Tryd.func64 cir64) (by show 1 ≤ 10; decide) ?_
  unfold ir64
  simp only [padTo, List.replicate, List.nil_append, List.append_nil, List.cons_append]
  repeat' (first | (refine WO.opE (by intro; simp (disch := omega) only [go_sem, zeros, Zz.look, Zz.cut, List.append_assoc, List.length_append, ov_one0, ov_one1, ov_one2, ov_one3, ov_one4, ov_one5, ov_all2, ov_all6, Nat.reduceAdd, Nat.reduceMul, Nat.reduceSub, Nat.reduceLeDiff, Nat.reduceEqDiff, Int.reduceNeg, Int.reduceAdd, Int.reduceToNat, reduceIte, reduceCtorEq, V6.cells]; rfl) (by simp only [pt8, pt0, pt1, pt2, pt3, pt4, pt5, pt6, pt7]; rfl) ?_) | (refine WO.opN (by intro; simp (disch := omega) only [go_sem, zeros, Zz.look, Zz.cut, List.append_assoc, List.length_append, ov_one0, ov_one1, ov_one2, ov_one3, ov_one4, ov_one5, ov_all2, ov_all6, Nat.reduceAdd, Nat.reduceMul, Nat.reduceSub, Nat.reduceLeDiff, Nat.reduceEqDiff, Int.reduceNeg, Int.reduceAdd, Int.reduceToNat, reduceIte, reduceCtorEq, V6.cells]; rfl) ?_) | (refine WO.specE rfl rfl (s40) (by simp only [pt8, pt0, pt1, pt2, pt3, pt4, pt5, pt6, pt7]; rfl) ?_) | (refine WO.specE rfl rfl (s81 hs') (by simp only [pt8, pt0, pt1, pt2, pt3, pt4, pt5, pt6, pt7]; rfl) ?_) | (refine WC.seq ?_) | (refine WC.region ?_) | (refine WO.nil ?_) | (simp only [fl1, fl2, fl3, fl4, fl5, fl6, fl7, fl8, fl9, fl10, Nat.reduceBEq]) | (refine WC.skip ?_) | (refine WC.ret ?_) | (refine WC.em2 rfl (fun hp => ?_) (fun hp => ?_) <;> try (exfalso; first | omega | contradiction)))
  exact ⟨_, rfl, rfl⟩
theorem s64 {v : V6} (hv : v.ok 576) {m : Mem} : borrowE E23 64 [.agg v.cells] m = some (.tuple [.agg [.int .i64 (eLo v.l 6), .int .i64 (eHi v.l 6)], .int .i64 0], m) := borrowE_of rfl ((f64 hv).mono fun y m' h => by rw [h]; rfl)

noncomputable def E24 : Env := E23.put 64 (borrowE E23 64)
theorem E24_ok : EnvOk Tryd.prog E24 := Env.put_ok E23_ok (borrowE_ok E23_ok (callable Tryd.func64 (by kernel_rfl)))
theorem f65 {lo hi k : Int} (h : -1000000000000000 ≤ lo ∧ lo ≤ 1000000000000000 ∧ -1000000000000000 ≤ hi ∧ hi ≤ 1000000000000000 ∧ -1000000000000000000 ≤ k ∧ k ≤ 1000000000000000000) : WF E24 (.func 65 [] []) [.agg [.int .i64 lo, .int .i64 hi], .int .i64 k] ⟨[], []⟩ fun y m' => y = .agg [.int .i64 (lo + k), .int .i64 (hi + k)] := by
  refine WF.fnE rfl (fn_of Tryd.func65 cir65) (by show 2 ≤ 14; decide) ?_
  unfold ir65
  simp only [padTo, List.replicate, List.nil_append, List.append_nil, List.cons_append]
  repeat' (first | (refine WO.opE (by intro; simp (disch := omega) only [go_sem, zeros, Zz.look, Zz.cut, List.append_assoc, List.length_append, ov_one0, ov_one1, ov_one2, ov_one3, ov_one4, ov_one5, ov_all2, ov_all6, Nat.reduceAdd, Nat.reduceMul, Nat.reduceSub, Nat.reduceLeDiff, Nat.reduceEqDiff, Int.reduceNeg, Int.reduceAdd, Int.reduceToNat, reduceIte, reduceCtorEq]; rfl) (by simp only [pt8, pt0, pt1, pt2, pt3, pt4, pt5, pt6, pt7]; rfl) ?_) | (refine WO.opN (by intro; simp (disch := omega) only [go_sem, zeros, Zz.look, Zz.cut, List.append_assoc, List.length_append, ov_one0, ov_one1, ov_one2, ov_one3, ov_one4, ov_one5, ov_all2, ov_all6, Nat.reduceAdd, Nat.reduceMul, Nat.reduceSub, Nat.reduceLeDiff, Nat.reduceEqDiff, Int.reduceNeg, Int.reduceAdd, Int.reduceToNat, reduceIte, reduceCtorEq]; rfl) ?_) | (refine WC.seq ?_) | (refine WC.region ?_) | (refine WO.nil ?_) | (simp only [fl1, fl2, fl3, fl4, fl5, fl6, fl7, fl8, fl9, fl10, Nat.reduceBEq]) | (refine WC.ret ?_))
  exact ⟨_, rfl, rfl⟩
theorem s65 {lo hi k : Int} (h : -1000000000000000 ≤ lo ∧ lo ≤ 1000000000000000 ∧ -1000000000000000 ≤ hi ∧ hi ≤ 1000000000000000 ∧ -1000000000000000000 ≤ k ∧ k ≤ 1000000000000000000) {m : Mem} : borrowE E24 65 [.agg [.int .i64 lo, .int .i64 hi], .int .i64 k] m = some (.agg [.int .i64 (lo + k), .int .i64 (hi + k)], m) := borrowE_of rfl ((f65 h).mono fun y m' h => by rw [h]; rfl)

noncomputable def E25 : Env := E24.put 65 (borrowE E24 65)
theorem E25_ok : EnvOk Tryd.prog E25 := Env.put_ok E24_ok (borrowE_ok E24_ok (callable Tryd.func65 (by kernel_rfl)))
theorem f83 {lo hi : Int} : WF E25 (.func 83 [] []) [.agg [.int .i64 lo, .int .i64 hi]] ⟨[], []⟩ fun y m' => y = .bool (decide (-100000000000000 ≤ lo ∧ lo ≤ hi ∧ hi ≤ 100000000000000)) := by
  refine WF.fnE rfl (fn_of Tryd.func83 cir83) (by show 1 ≤ 18; decide) ?_
  unfold ir83
  simp only [padTo, List.replicate, List.nil_append, List.append_nil, List.cons_append]
  repeat' (first | (refine WO.yes rfl ?_) | (refine WO.noE rfl (by simp only [pt8, pt0, pt1, pt2, pt3, pt4, pt5, pt6, pt7]; rfl) ?_) | (refine WO.opE (by intro; simp (disch := omega) only [go_sem, zeros, Zz.look, Zz.cut, List.append_assoc, List.length_append, ov_one0, ov_one1, ov_one2, ov_one3, ov_one4, ov_one5, ov_all2, ov_all6, Nat.reduceAdd, Nat.reduceMul, Nat.reduceSub, Nat.reduceLeDiff, Nat.reduceEqDiff, Int.reduceNeg, Int.reduceAdd, Int.reduceToNat, reduceIte, reduceCtorEq]; rfl) (by simp only [pt8, pt0, pt1, pt2, pt3, pt4, pt5, pt6, pt7]; rfl) ?_) | (refine WC.seq ?_) | (refine WC.region ?_) | (refine WO.nil ?_) | (simp only [fl1, fl2, fl3, fl4, fl5, fl6, fl7, fl8, fl9, fl10, Nat.reduceBEq]) | (refine WC.ret ?_) | (refine WO.em2 rfl (by intro hp; simp only [hp, decide_true]; rfl) (by intro hp; simp only [hp, decide_false]; rfl) (fun hp => ?_) (fun hp => ?_) <;> try (exfalso; first | omega | contradiction)))
  all_goals refine ⟨_, rfl, ?_⟩
  all_goals simp only [oneRes, St.mem, AV.bool.injEq, gt8, gt0, gt1, gt2, gt3, gt4, gt5, gt6, gt7]
  all_goals first
    | rfl
    | (symm; rw [decide_eq_true_iff]; omega)
    | (symm; rw [decide_eq_false_iff_not]; omega)
    | (rw [decide_eq_decide]; omega)
theorem s83 {lo hi : Int} {m : Mem} : borrowE E25 83 [.agg [.int .i64 lo, .int .i64 hi]] m = some (.bool (decide (-100000000000000 ≤ lo ∧ lo ≤ hi ∧ hi ≤ 100000000000000)), m) := borrowE_of rfl (f83.mono fun y m' h => by rw [h]; rfl)

noncomputable def E26 : Env := E25.put 83 (borrowE E25 83)
theorem E26_ok : EnvOk Tryd.prog E26 := Env.put_ok E25_ok (borrowE_ok E25_ok (callable Tryd.func83 (by kernel_rfl)))
/-- Within. -/
def withV (lo hi low high : Int) : AV := if (-100000000000000 ≤ lo ∧ lo ≤ hi ∧ hi ≤ 100000000000000) ∧ low ≤ high then .tuple [.int .i64 (sur lo hi low high), .int .i64 0] else .tuple [.int .i64 0, .int .i64 1]
theorem f78 {lo hi low high : Int} : WF E26 (.func 78 [] []) [.agg [.int .i64 lo, .int .i64 hi], .int .i64 low, .int .i64 high] ⟨[], []⟩ fun y m' => y = withV lo hi low high := by
  by_cases h : (-100000000000000 ≤ lo ∧ lo ≤ hi ∧ hi ≤ 100000000000000) ∧ low ≤ high
  · have e : withV lo hi low high = .tuple [.int .i64 (sur lo hi low high), .int .i64 0] := if_pos h
    rw [e]
    refine WF.fnE rfl (fn_of Tryd.func78 cir78) (by show 3 ≤ 20; decide) ?_
    unfold ir78
    simp only [padTo, List.replicate, List.nil_append, List.append_nil, List.cons_append]
    repeat' (first | (refine WO.yes rfl ?_) | (refine WO.opE (by intro; simp (disch := omega) only [go_sem, zeros, Zz.look, Zz.cut, List.append_assoc, List.length_append, ov_one0, ov_one1, ov_one2, ov_one3, ov_one4, ov_one5, ov_all2, ov_all6, Nat.reduceAdd, Nat.reduceMul, Nat.reduceSub, Nat.reduceLeDiff, Nat.reduceEqDiff, Int.reduceNeg, Int.reduceAdd, Int.reduceToNat, reduceIte, reduceCtorEq]; rfl) (by simp only [pt8, pt0, pt1, pt2, pt3, pt4, pt5, pt6, pt7]; rfl) ?_) | (refine WO.specE rfl rfl (s83) (by simp only [pt8, pt0, pt1, pt2, pt3, pt4, pt5, pt6, pt7]; rfl) ?_) | (refine WO.specE rfl rfl (s84) (by simp only [pt8, pt0, pt1, pt2, pt3, pt4, pt5, pt6, pt7]; rfl) ?_) | (refine WC.seq ?_) | (refine WC.region ?_) | (refine WO.nil ?_) | (simp only [fl1, fl2, fl3, fl4, fl5, fl6, fl7, fl8, fl9, fl10, Nat.reduceBEq]) | (refine WC.skip ?_) | (refine WC.ret ?_) | (refine WO.em2 rfl (by intro hp; simp only [hp, decide_true]; rfl) (by intro hp; simp only [hp, decide_false]; rfl) (fun hp => ?_) (fun hp => ?_) <;> try (exfalso; first | omega | contradiction)) | (refine WC.em2 rfl (fun hp => ?_) (fun hp => ?_) <;> try (exfalso; first | omega | contradiction)))
    exact ⟨_, rfl, rfl⟩
  · have e : withV lo hi low high = .tuple [.int .i64 0, .int .i64 1] := if_neg h
    rw [e]
    refine WF.fnE rfl (fn_of Tryd.func78 cir78) (by show 3 ≤ 20; decide) ?_
    unfold ir78
    simp only [padTo, List.replicate, List.nil_append, List.append_nil, List.cons_append]
    repeat' (first | (refine WO.yes rfl ?_) | (refine WO.noE rfl (by simp only [pt8, pt0, pt1, pt2, pt3, pt4, pt5, pt6, pt7]; rfl) ?_) | (refine WO.opE (by intro; simp (disch := omega) only [go_sem, zeros, Zz.look, Zz.cut, List.append_assoc, List.length_append, ov_one0, ov_one1, ov_one2, ov_one3, ov_one4, ov_one5, ov_all2, ov_all6, Nat.reduceAdd, Nat.reduceMul, Nat.reduceSub, Nat.reduceLeDiff, Nat.reduceEqDiff, Int.reduceNeg, Int.reduceAdd, Int.reduceToNat, reduceIte, reduceCtorEq]; rfl) (by simp only [pt8, pt0, pt1, pt2, pt3, pt4, pt5, pt6, pt7]; rfl) ?_) | (refine WO.specE rfl rfl (s83) (by simp only [pt8, pt0, pt1, pt2, pt3, pt4, pt5, pt6, pt7]; rfl) ?_) | (refine WC.seq ?_) | (refine WC.region ?_) | (refine WO.nil ?_) | (simp only [fl1, fl2, fl3, fl4, fl5, fl6, fl7, fl8, fl9, fl10, Nat.reduceBEq]) | (refine WC.yes rfl ?_) | (refine WC.ret ?_) | (refine WO.em2 rfl (by intro hp; simp only [hp, decide_true]; rfl) (by intro hp; simp only [hp, decide_false]; rfl) (fun hp => ?_) (fun hp => ?_) <;> try (exfalso; first | omega | contradiction)) | (refine WC.em2 rfl (fun hp => ?_) (fun hp => ?_) <;> try (exfalso; first | omega | contradiction)))
    all_goals exact ⟨_, rfl, rfl⟩
theorem s78 {lo hi low high : Int} {m : Mem} : borrowE E26 78 [.agg [.int .i64 lo, .int .i64 hi], .int .i64 low, .int .i64 high] m = some (withV lo hi low high, m) := borrowE_of rfl (f78.mono fun y m' h => by
  rw [h]
  unfold withV
  split <;> rfl)

noncomputable def E27 : Env := E26.put 78 (borrowE E26 78)
theorem E27_ok : EnvOk Tryd.prog E27 := Env.put_ok E26_ok (borrowE_ok E26_ok (callable Tryd.func78 (by kernel_rfl)))
/-- A pipe has a note. -/
def hasP (p : Pipe) (v : V6) (tol : Int) : Prop := -10000 * tol ≤ gLo p.p v.of ∧ gHi p.p v.of ≤ 10000 * tol
instance (p : Pipe) (v : V6) (tol : Int) : Decidable (hasP p v tol) := by unfold hasP; infer_instance
theorem sur_one {lo hi low high : Int} : sur lo hi low high = 1 ↔ low ≤ lo ∧ hi ≤ high := by
  unfold sur
  split
  · rename_i h; exact ⟨fun _ => h, fun _ => rfl⟩
  · rename_i h; exact ⟨fun h' => by split at h' <;> omega, fun h' => absurd h' h⟩
theorem f68 {pv : AV} {sup tol : Int} {p : Pipe} {v : V6} (hp : p.p.ok 576) (hv : v.ok 48) (h0 : 0 ≤ tol) (h1 : tol ≤ 50000) (hcell : Zz.pureC pv = true) : WF E27 (.func 68 [] []) [.agg [pv, .int .i64 sup, .int .i64 tol], .agg p.cells, .agg v.cells] ⟨[], []⟩ fun y m' => y = .bool (decide (hasP p v tol)) := by
  have h76 := fun m => s76 hv (m := m)
  have h82 := fun m => s82 (m := m) hp (of_ok hv) h0 (Int.le_trans h1 (by decide))
  refine WF.fnE rfl (fn_of Tryd.func68 cir68) (by show 3 ≤ 27; decide) ?_
  unfold ir68
  simp only [padTo, List.replicate, List.nil_append, List.append_nil, List.cons_append]
  repeat' (first | (refine WO.opE (by intro; simp (disch := omega) only [go_sem, zeros, Zz.look, Zz.cut, List.append_assoc, List.length_append, ov_one0, ov_one1, ov_one2, ov_one3, ov_one4, ov_one5, ov_all2, ov_all6, Nat.reduceAdd, Nat.reduceMul, Nat.reduceSub, Nat.reduceLeDiff, Nat.reduceEqDiff, Int.reduceNeg, Int.reduceAdd, Int.reduceToNat, reduceIte, reduceCtorEq, Pipe.cells, V6.cells]; rfl) (by simp only [pt8, pt0, pt1, pt2, pt3, pt4, pt5, pt6, pt7]; rfl) ?_) | (refine WO.opN (by intro; simp (disch := omega) only [go_sem, zeros, Zz.look, Zz.cut, List.append_assoc, List.length_append, ov_one0, ov_one1, ov_one2, ov_one3, ov_one4, ov_one5, ov_all2, ov_all6, Nat.reduceAdd, Nat.reduceMul, Nat.reduceSub, Nat.reduceLeDiff, Nat.reduceEqDiff, Int.reduceNeg, Int.reduceAdd, Int.reduceToNat, reduceIte, reduceCtorEq, Pipe.cells, V6.cells]; rfl) ?_) | (refine WO.specE rfl rfl (h76 _) (by simp only [pt8, pt0, pt1, pt2, pt3, pt4, pt5, pt6, pt7]; rfl) ?_) | (refine WO.specE rfl rfl (h82 _) (by simp only [pt8, pt0, pt1, pt2, pt3, pt4, pt5, pt6, pt7]; rfl) ?_) | (refine WC.seq ?_) | (refine WC.region ?_) | (refine WO.nil ?_) | (simp only [fl1, fl2, fl3, fl4, fl5, fl6, fl7, fl8, fl9, fl10, Nat.reduceBEq]) | (refine WC.ret ?_))
  refine ⟨_, rfl, ?_⟩
  simp only [oneRes, gt8, gt0, gt1, gt2, gt3, gt4, gt5, gt6, gt7, AV.bool.injEq]
  rw [decide_eq_decide]
  exact sur_one
theorem s68 {pv : AV} {ps : List Pipe} {sup tol : Int} {p : Pipe} {v : V6} (hq : PpL pv ps) (hp : p.p.ok 576) (hv : v.ok 48) (h0 : 0 ≤ tol) (h1 : tol ≤ 50000) {m : Mem} : borrowE E27 68 [.agg [pv, .int .i64 sup, .int .i64 tol], .agg p.cells, .agg v.cells] m = some (.bool (decide (hasP p v tol)), m) :=
  borrowE_of (pures_cons (pure3 hq.pureC) (pures_cons rfl (pures_cons rfl rfl))) ((f68 hp hv h0 h1 hq.pureC).mono fun y m' h => by rw [h]; rfl)

noncomputable def E28 : Env := E27.put 68 (borrowE E27 68)
theorem E28_ok : EnvOk Tryd.prog E28 := Env.put_ok E27_ok (borrowE_ok E27_ok (callable Tryd.func68 (by kernel_rfl)))
end Go.Proofs.YtjbdefmhjmkifaaDoor


set_option linter.unusedSimpArgs false
set_option linter.unusedVariables false
namespace Go.Proofs.YtjbdefmhjmkifaaDoor
open Go.Zz
set_option maxRecDepth 100000
set_option maxHeartbeats 1000000
theorem VO.pok {ps : List Pipe} {sup tol : Int} (h : VO ps sup tol) (id : Int) : (pipeOf ps id).p.ok 576 := by
  by_cases hp : pos ps id < ps.length
  · exact (h.1 _ hp).2.2.1
  · rw [pipeOf_none hp]; decide
theorem VO.pok' {ps : List Pipe} {sup tol : Int} (h : VO ps sup tol) {i : Nat} (hi : i < ps.length) : (nth ps i).p.ok 576 := (h.1 i hi).2.2.1
/-! ### Find -/
def findL (ps : List Pipe) (tol : Int) (v : V6) (i : Nat) : List Int := ((ps.take i).filter fun p => decide (hasP p v tol)).map (·.id)
theorem take_succ' {ps : List Pipe} {i : Nat} (h : i < ps.length) : ps.take (i + 1) = ps.take i ++ [nth ps i] := by
  rw [List.take_add_one, nth_lt h, List.getElem?_eq_getElem h]
  rfl
theorem findL_yes {ps : List Pipe} {tol : Int} {v : V6} {i : Nat} (h : i < ps.length) (hh : hasP (nth ps i) v tol) : findL ps tol v (i + 1) = findL ps tol v i ++ [(nth ps i).id] := by
  unfold findL
  rw [take_succ' h, List.filter_append, List.map_append]
  simp [hh]
theorem findL_no {ps : List Pipe} {tol : Int} {v : V6} {i : Nat} (h : i < ps.length) (hh : ¬ hasP (nth ps i) v tol) : findL ps tol v (i + 1) = findL ps tol v i := by
  unfold findL
  rw [take_succ' h, List.filter_append, List.map_append]
  simp [hh]
theorem findL_len {ps : List Pipe} {tol : Int} {v : V6} {i : Nat} : (findL ps tol v i).length ≤ i := by
  unfold findL
  rw [List.length_map]
  exact Nat.le_trans (List.length_filter_le _ _) (by rw [List.length_take]; omega)
theorem gs_res {H : Hp} {v : AV} {q : Nat} {l : List Int} (h : GS 1 H v q (l.map (.int .i64))) : ∃ x, IntS x l ∧ resC H v = some x ∧ (l = [] → v = .snil → x = .snil) := by
  rcases h with ⟨rfl, h1⟩ | ⟨g, rfl, h1, h2⟩ | ⟨g, n, rfl, h1, h2, h3⟩
  · have : l = [] := by simpa using h1
    subst this
    exact ⟨.snil, IntS.nil, rfl, fun _ _ => rfl⟩
  · have : l = [] := by simpa using h1
    subst this
    refine ⟨.sval true 0 [], .inr ⟨true, rfl⟩, ?_, fun _ h => by cases h⟩
    simp only [Zz.resC, h2]
    rfl
  · have hn : n = l.length := by simpa using h1.symm
    subst hn
    exact ⟨_, IntS.mk l _, resC_ints (cap := none) h3 rfl, fun h _ => by subst h; simp at h2⟩
theorem res2 {H : Hp} {v x : AV} {k : IntKind} {n : Int} (h : resC H v = some x) : resV H (.tuple [v, .int k n]) = some (.tuple [x, .int k n]) := by
  have h2 : resA H v = some x := by
    cases v <;> first | exact h | (simp [Zz.resC] at h)
  simp only [resV, resT, h2]
  rfl
theorem cut6 {x0 x1 x2 x3 x4 x5 : AV} {l : List AV} : cut (x0 :: x1 :: x2 :: x3 :: x4 :: x5 :: l) 0 6 = some [x0, x1, x2, x3, x4, x5] := by simp [cut]
theorem f35 {pv : AV} {ps : List Pipe} {sup tol : Int} {w : V6} (hq : PpL pv ps) (hmax : ps.length < 9223372036854775807) (hv : VO ps sup tol) (hw : w.ok 48) :
    WF E28 (.func 35 [] []) [.agg [pv, .int .i64 sup, .int .i64 tol], .agg w.cells] ⟨[], []⟩ fun y m' => ∃ x, IntS x (findL ps tol w ps.length) ∧ resV m'.heap y = some (.tuple [x, .int .i64 0]) ∧ (findL ps tol w ps.length = [] → x = .snil) := by
  have hlen := hq.len
  have ht := hv.2.2.2
  have h120 := hv.2.1
  have hw' : wi6 w.x0 w.x1 w.x2 w.x3 w.x4 w.x5 48 := hw
  refine WF.fnE rfl (fn_of Tryd.func35 cir35) (by show 2 ≤ 35; decide) ?_
  unfold ir35
  simp only [padTo, List.replicate, List.nil_append, List.append_nil, List.cons_append]
  repeat' (first | (refine WO.yes rfl ?_) | (refine WO.opE (by intro; simp (disch := omega) only [go_sem, zeros, Zz.look, List.append_assoc, List.length_append, ov_one0, ov_all2, ov_all6, Nat.reduceAdd, Nat.reduceMul, Nat.reduceSub, Nat.reduceLeDiff, Nat.reduceEqDiff, Int.reduceNeg, Int.reduceAdd, Int.reduceToNat, reduceIte, reduceCtorEq, V6.cells]; rfl) (by simp only [pt8, pt0, pt1, pt2, pt3, pt4, pt5, pt6, pt7]; rfl) ?_) | (refine WO.opE (by intro; exact ev_lenS (by simp only [go_sem]; first | rfl | assumption)) (by simp only [pt8, pt0, pt1, pt2, pt3, pt4, pt5, pt6, pt7]; rfl) ?_) | (refine WO.specE rfl rfl (s14 hq hmax) (by simp only [pt8, pt0, pt1, pt2, pt3, pt4, pt5, pt6, pt7]; rfl) ?_) | (refine WO.specE rfl rfl (s50) (by simp only [pt8, pt0, pt1, pt2, pt3, pt4, pt5, pt6, pt7]; rfl) ?_) | (refine WC.seq ?_) | (refine WC.region ?_) | (refine WO.nil ?_) | (simp only [fl1, fl2, fl3, fl4, fl5, fl6, fl7, fl8, fl9, fl10, Nat.reduceBEq]) | (refine WC.skip ?_) | (refine WC.block ?_) | (refine WO.em2 rfl (by intro hp; simp only [hp, decide_true]; rfl) (by intro hp; simp only [hp, decide_false]; rfl) (fun hp => ?_) (fun hp => ?_) <;> try (exfalso; first | omega | contradiction)) | (refine WC.em2 rfl (fun hp => ?_) (fun hp => ?_) <;> try (exfalso; first | omega | contradiction)))
  refine WC.loopI (fun m s => ∃ T H i v q, s = ⟨T, H, []⟩ ∧ T.length = 35 ∧ gt T 2 = .pref 0 0 0 ∧ gt T 3 = .pref 1 0 0 ∧ gt T 5 = .int .i64 0 ∧ gt T 6 = v ∧ gt T 18 = pv ∧ gt T 19 = .int .i64 (ps.length : Nat) ∧ gt T 20 = .int .i64 (i : Nat) ∧ m + i = ps.length ∧ (Zz.look H 0 0 = some [pv, .int .i64 sup, .int .i64 tol] ∧ Zz.look H 1 0 = some w.cells) ∧ GS 1 H v q ((findL ps tol w i).map (.int .i64)) ∧ (findL ps tol w i = [] → v = .snil) ∧ 2 ≤ q) ?_ ps.length _ ⟨_, _, 0, _, 2, rfl, rfl, rfl, rfl, rfl, rfl, rfl, rfl, rfl, by omega, ⟨rfl, rfl⟩, .inl ⟨rfl, rfl⟩, fun _ => rfl, by omega⟩
  rintro m _ ⟨T, H, i, v, q, rfl, hT, g2, g3, g5, g6, g18, g19, g20, hm, ⟨k0, k1⟩, hg, hnil, hq3⟩
  obtain ⟨f, rfl⟩ := ex35 hT
  clear hT
  replace g2 : f 2 = .pref 0 0 0 := g2
  replace g3 : f 3 = .pref 1 0 0 := g3
  replace g5 : f 5 = .int .i64 0 := g5
  replace g6 : f 6 = v := g6
  replace g18 : f 18 = pv := g18
  replace g19 : f 19 = .int .i64 (ps.length : Nat) := g19
  replace g20 : f 20 = .int .i64 (i : Nat) := g20
  simp only [g2, g3, g5, g6, g18, g19, g20]
  have l0 := look_lt k1
  have hk1 : Zz.look H 1 0 = some [.int .i64 w.x0, .int .i64 w.x1, .int .i64 w.x2, .int .i64 w.x3, .int .i64 w.x4, .int .i64 w.x5] := k1
  by_cases hin : i < ps.length
  · have hpo := hv.pok' hin
    have h68 := fun m => s68 (m := m) (sup := sup) hq hpo hw ht.1 ht.2
    by_cases hh : hasP (nth ps i) w tol
    · obtain ⟨v', q', H1, e1, a1, a2, a3, a4⟩ := (hg.more [some ⟨0, (nth ps i).cells⟩, some ⟨0, [.int .i64 (nth ps i).id]⟩]).append (L := []) (bytes := 8) (n := 1) (cap := some 1) (id := H.length + 1) (lk1 rfl) rfl Nat.one_pos Nat.one_pos ⟨by have := findL_len (ps := ps) (tol := tol) (v := w) (i := i); rw [Nat.div_one]; simp; omega, by have := findL_len (ps := ps) (tol := tol) (v := w) (i := i); rw [Nat.div_one]; simp; omega⟩
      have hkk : ∀ j, j < H.length → j ≠ q → H1[j]? = H[j]? := fun j h1 h2 => by rw [a4 j (by simp; omega) h2, List.getElem?_append_left h1]
      have t1 : (findL ps tol w i).map (AV.int .i64) ++ [.int .i64 (nth ps i).id] = (findL ps tol w (i + 1)).map (.int .i64) := by rw [findL_yes hin hh]; simp
      rw [t1] at a1
      repeat' (first | (refine WO.opE (by intro; simp (disch := omega) only [go_sem, zeros, List.append_assoc, List.length_append, ov_all6, Nat.reduceAdd, Nat.reduceMul, Nat.reduceSub, Nat.reduceLeDiff, Nat.reduceEqDiff, Int.reduceNeg, Int.reduceAdd, Int.reduceToNat, reduceIte, reduceCtorEq, hq.at, cut10, cut6, Pipe.cells, V6.cells, over10, lk0, lk1, st0, st1, k0, hk1, look_left]; rfl) (by simp only [pt8, pt0, pt1, pt2, pt3, pt4, pt5, pt6, pt7]; rfl) ?_) | (refine WO.opN (by intro; simp (disch := omega) only [go_sem, zeros, List.append_assoc, List.length_append, ov_all6, Nat.reduceAdd, Nat.reduceMul, Nat.reduceSub, Nat.reduceLeDiff, Nat.reduceEqDiff, Int.reduceNeg, Int.reduceAdd, Int.reduceToNat, reduceIte, reduceCtorEq, hq.at, cut10, cut6, Pipe.cells, V6.cells, over10, lk0, lk1, st0, st1, k0, hk1, look_left]; rfl) ?_) | (refine WO.specE rfl rfl (h68 _) (by simp only [pt8, pt0, pt1, pt2, pt3, pt4, pt5, pt6, pt7]; rfl) ?_) | (refine WO.opE (by intro; rw [ev_append]; exact e1) (by simp only [pt8, pt0, pt1, pt2, pt3, pt4, pt5, pt6, pt7]; rfl) ?_) | (refine WC.seq ?_) | (refine WC.region ?_) | (refine WO.nil ?_) | (simp only [fl1, fl2, fl3, fl4, fl5, fl6, fl7, fl8, fl9, fl10, Nat.reduceBEq]) | (refine WC.skip ?_) | (refine WC.block ?_) | (refine WC.em2 rfl (fun hp => ?_) (fun hp => ?_) <;> try (exfalso; first | omega | contradiction)))
      refine ⟨m - 1, by omega, _, _, i + 1, v', q', rfl, rfl, rfl, rfl, rfl, rfl, rfl, rfl, rfl, by omega, ⟨?_, ?_⟩, a1, ?_, ?_⟩
      · rw [look_of_get (hkk 0 (by omega) (by omega))]; exact k0
      · rw [look_of_get (hkk 1 (by omega) (by omega))]; exact k1
      · intro h; rw [findL_yes hin hh] at h; simp at h
      · rcases a2 with rfl | rfl
        · exact hq3
        · first | (simp; done) | (simp; omega)
    · have e1 := findL_no hin hh
      repeat' (first | (refine WO.opE (by intro; simp (disch := omega) only [go_sem, zeros, List.append_assoc, List.length_append, ov_all6, Nat.reduceAdd, Nat.reduceMul, Nat.reduceSub, Nat.reduceLeDiff, Nat.reduceEqDiff, Int.reduceNeg, Int.reduceAdd, Int.reduceToNat, reduceIte, reduceCtorEq, hq.at, cut10, cut6, Pipe.cells, V6.cells, over10, lk0, lk1, st0, st1, k0, hk1, look_left]; rfl) (by simp only [pt8, pt0, pt1, pt2, pt3, pt4, pt5, pt6, pt7]; rfl) ?_) | (refine WO.opN (by intro; simp (disch := omega) only [go_sem, zeros, List.append_assoc, List.length_append, ov_all6, Nat.reduceAdd, Nat.reduceMul, Nat.reduceSub, Nat.reduceLeDiff, Nat.reduceEqDiff, Int.reduceNeg, Int.reduceAdd, Int.reduceToNat, reduceIte, reduceCtorEq, hq.at, cut10, cut6, Pipe.cells, V6.cells, over10, lk0, lk1, st0, st1, k0, hk1, look_left]; rfl) ?_) | (refine WO.specE rfl rfl (h68 _) (by simp only [pt8, pt0, pt1, pt2, pt3, pt4, pt5, pt6, pt7]; rfl) ?_) | (refine WC.seq ?_) | (refine WC.region ?_) | (refine WO.nil ?_) | (simp only [fl1, fl2, fl3, fl4, fl5, fl6, fl7, fl8, fl9, fl10, Nat.reduceBEq]) | (refine WC.skip ?_) | (refine WC.block ?_) | (refine WC.em2 rfl (fun hp => ?_) (fun hp => ?_) <;> try (exfalso; first | omega | contradiction)))
      refine ⟨m - 1, by omega, _, _, i + 1, v, q, rfl, rfl, rfl, rfl, rfl, rfl, rfl, rfl, rfl, by omega, ⟨?_, ?_⟩, by rw [e1]; exact hg.more _, by rw [e1]; exact hnil, hq3⟩
      · rw [look_left (by omega)]; exact k0
      · rw [look_left (by omega)]; exact k1
  · have hi' : i = ps.length := by omega
    subst hi'
    repeat' (first | (refine WO.opE (by intro; simp (disch := omega) only [go_sem, zeros, List.append_assoc, List.length_append, ov_all6, Nat.reduceAdd, Nat.reduceMul, Nat.reduceSub, Nat.reduceLeDiff, Nat.reduceEqDiff, Int.reduceNeg, Int.reduceAdd, Int.reduceToNat, reduceIte, reduceCtorEq, hq.at]; rfl) (by simp only [pt8, pt0, pt1, pt2, pt3, pt4, pt5, pt6, pt7]; rfl) ?_) | (refine WC.seq ?_) | (refine WC.region ?_) | (refine WO.nil ?_) | (simp only [fl1, fl2, fl3, fl4, fl5, fl6, fl7, fl8, fl9, fl10, Nat.reduceBEq]) | (refine WC.exit ?_) | (refine WC.ret ?_) | (refine WC.em2 rfl (fun hp => ?_) (fun hp => ?_) <;> try (exfalso; first | omega | contradiction)))
    obtain ⟨x, x1, x2, x3⟩ := gs_res hg
    refine ⟨_, rfl, x, x1, ?_, fun h => x3 h (hnil h)⟩
    exact res2 x2
/-- Find. -/
theorem s35 {pv : AV} {ps : List Pipe} {sup tol : Int} {w : V6} (hq : PpL pv ps) (hmax : ps.length < 9223372036854775807) : ∃ x, (VO ps sup tol ∧ w.ok 48 → IntS x (findL ps tol w ps.length) ∧ (findL ps tol w ps.length = [] → x = .snil)) ∧ (¬ (VO ps sup tol ∧ w.ok 48) → x = .snil) ∧
    ∀ m, borrowE E28 35 [.agg [pv, .int .i64 sup, .int .i64 tol], .agg w.cells] m = some (.tuple [x, .int .i64 (if VO ps sup tol ∧ w.ok 48 then 0 else 1)], m) := by
  by_cases h : VO ps sup tol ∧ w.ok 48
  · obtain ⟨k, y, m', h1, x, x1, x2, x3⟩ := (f35 hq hmax h.1 h.2).ex
    refine ⟨x, fun _ => ⟨x1, x3⟩, fun h' => absurd h h', fun m => ?_⟩
    rw [if_pos h]
    exact borrowE_of (pures_cons (pure3 hq.pureC) (pures_cons rfl rfl)) ⟨⟨k, y, m', h1, x2⟩⟩
  · refine ⟨.snil, fun h' => absurd h' h, fun _ => rfl, fun m => ?_⟩
    rw [if_neg h]
    refine borrowE_of (pures_cons (pure3 hq.pureC) (pures_cons rfl rfl)) ?_
    have h' : ¬ (VO ps sup tol ∧ wi6 w.x0 w.x1 w.x2 w.x3 w.x4 w.x5 48) := h
    refine WF.fnE rfl (fn_of Tryd.func35 cir35) (by show 2 ≤ 35; decide) ?_
    unfold ir35
    simp only [padTo, List.replicate, List.nil_append, List.append_nil, List.cons_append]
    repeat' (first | (refine WO.yes rfl ?_) | (refine WO.noE rfl (by simp only [pt8, pt0, pt1, pt2, pt3, pt4, pt5, pt6, pt7]; rfl) ?_) | (refine WO.opE (by intro; simp (disch := omega) only [go_sem, zeros, Zz.look, List.append_assoc, List.length_append, ov_one0, ov_all2, ov_all6, Nat.reduceAdd, Nat.reduceMul, Nat.reduceSub, Nat.reduceLeDiff, Nat.reduceEqDiff, Int.reduceNeg, Int.reduceAdd, Int.reduceToNat, reduceIte, reduceCtorEq, V6.cells]; rfl) (by simp only [pt8, pt0, pt1, pt2, pt3, pt4, pt5, pt6, pt7]; rfl) ?_) | (refine WO.specE rfl rfl (s14 hq hmax) (by simp only [pt8, pt0, pt1, pt2, pt3, pt4, pt5, pt6, pt7]; rfl) ?_) | (refine WO.specE rfl rfl (s50) (by simp only [pt8, pt0, pt1, pt2, pt3, pt4, pt5, pt6, pt7]; rfl) ?_) | (refine WC.seq ?_) | (refine WC.region ?_) | (refine WO.nil ?_) | (simp only [fl1, fl2, fl3, fl4, fl5, fl6, fl7, fl8, fl9, fl10, Nat.reduceBEq]) | (refine WC.yes rfl ?_) | (refine WC.skip ?_) | (refine WC.ret ?_) | (refine WO.em2 rfl (by intro hp; simp only [hp, decide_true]; rfl) (by intro hp; simp only [hp, decide_false]; rfl) (fun hp => ?_) (fun hp => ?_) <;> try (exfalso; first | omega | contradiction)) | (refine WC.em2 rfl (fun hp => ?_) (fun hp => ?_) <;> try (exfalso; first | omega | contradiction)))
    all_goals first
      | exact ⟨_, rfl, rfl⟩
      | exact absurd ⟨Decidable.of_not_not ‹_›, Decidable.of_not_not ‹_›⟩ h'

noncomputable def E29 : Env := E28.put 35 (borrowE E28 35)
theorem E29_ok : EnvOk Tryd.prog E29 := Env.put_ok E28_ok (borrowE_ok E28_ok (callable Tryd.func35 (by kernel_rfl)))
/-- choices. -/
theorem f51 {pv : AV} {ps : List Pipe} {sup tol : Int} {w : V6} {x : AV} (hx : ∀ m, borrowE E28 35 [.agg [pv, .int .i64 sup, .int .i64 tol], .agg w.cells] m = some (.tuple [x, .int .i64 (if VO ps sup tol ∧ w.ok 48 then 0 else 1)], m)) : WF E29 (.func 51 [] []) [.agg [pv, .int .i64 sup, .int .i64 tol], .agg w.cells] ⟨[], []⟩ fun y m' => y = x := by
  refine WF.fnE rfl (fn_of Tryd.func51 cir51) (by show 2 ≤ 15; decide) ?_
  unfold ir51
  simp only [padTo, List.replicate, List.nil_append, List.append_nil, List.cons_append]
  repeat' (first | (refine WO.opE (by intro; simp (disch := omega) only [go_sem, zeros, Zz.look, List.append_assoc, List.length_append, ov_one0, ov_all2, ov_all6, Nat.reduceAdd, Nat.reduceMul, Nat.reduceSub, Nat.reduceLeDiff, Nat.reduceEqDiff, Int.reduceNeg, Int.reduceAdd, Int.reduceToNat, reduceIte, reduceCtorEq, V6.cells]; rfl) (by simp only [pt8, pt0, pt1, pt2, pt3, pt4, pt5, pt6, pt7]; rfl) ?_) | (refine WO.specE rfl rfl (hx _) (by simp only [pt8, pt0, pt1, pt2, pt3, pt4, pt5, pt6, pt7]; rfl) ?_) | (refine WC.seq ?_) | (refine WC.region ?_) | (refine WO.nil ?_) | (simp only [fl1, fl2, fl3, fl4, fl5, fl6, fl7, fl8, fl9, fl10, Nat.reduceBEq]) | (refine WC.ret ?_))
  exact ⟨_, rfl, rfl⟩
theorem intS_resA {x : AV} {l : List Int} (h : IntS x l) (H : Hp) : resV H x = some x := by
  obtain ⟨rfl, _⟩ | ⟨f, rfl⟩ := h
  · rfl
  · exact IntS.resC (.inr ⟨f, rfl⟩) H
end Go.Proofs.YtjbdefmhjmkifaaDoor


set_option linter.unusedSimpArgs false
set_option linter.unusedVariables false
namespace Go.Proofs.YtjbdefmhjmkifaaDoor
open Go.Zz
set_option maxRecDepth 100000
set_option maxHeartbeats 2000000
theorem s51 {pv : AV} {ps : List Pipe} {sup tol : Int} {w : V6} {x : AV} {l : List Int} (hq : PpL pv ps) (hi : IntS x l) (hx : ∀ m, borrowE E28 35 [.agg [pv, .int .i64 sup, .int .i64 tol], .agg w.cells] m = some (.tuple [x, .int .i64 (if VO ps sup tol ∧ w.ok 48 then 0 else 1)], m)) {m : Mem} : borrowE E29 51 [.agg [pv, .int .i64 sup, .int .i64 tol], .agg w.cells] m = some (x, m) :=
  borrowE_of (pures_cons (pure3 hq.pureC) (pures_cons rfl rfl)) ((f51 hx).mono fun y m' h => by rw [h]; exact intS_resA hi _)

noncomputable def E30 : Env := E29.put 51 (borrowE E29 51)
theorem E30_ok : EnvOk Tryd.prog E30 := Env.put_ok E29_ok (borrowE_ok E29_ok (callable Tryd.func51 (by kernel_rfl)))
/-! ### In tune together -/
def VL6 (x : AV) (vs : List V6) : Prop := SL 6 x (vs.map V6.cells)
def tail6 (vs : List V6) (i : Nat) : List AV := ((vs.map V6.cells).drop (i + 1)).flatten
theorem VL6.len {x : AV} {vs : List V6} (h : VL6 x vs) : slen x = some vs.length := by
  have := SL.len h
  rwa [List.length_map] at this
def nv (vs : List V6) (i : Nat) : V6 := vs.getD i default
theorem nv_lt {vs : List V6} {i : Nat} (h : i < vs.length) : nv vs i = vs[i] := by simp [nv, h]
theorem VL6.at {x : AV} {vs : List V6} (h : VL6 x vs) {i : Int} (h0 : 0 ≤ i) (hi : i < vs.length) : indexAddrAV 6 x (.int .i64 i) = some (.pval (.int .i64 (nv vs i.toNat).x0 :: .int .i64 (nv vs i.toNat).x1 :: .int .i64 (nv vs i.toNat).x2 :: .int .i64 (nv vs i.toNat).x3 :: .int .i64 (nv vs i.toNat).x4 :: .int .i64 (nv vs i.toNat).x5 :: tail6 vs i.toNat)) := by
  have hi' : i.toNat < vs.length := by omega
  have := SL.at h (i := i.toNat) (by simpa using hi')
  have e : i = (i.toNat : Int) := by omega
  rw [nv_lt hi']
  conv => lhs; rw [e]
  simpa [V6.cells, tail6] using this
theorem VL6.byVal {x : AV} {vs : List V6} (h : VL6 x vs) (H : Hp) : Zz.byVal H x = some x := SL.byVal h (fun c hc => by
  obtain ⟨r, _, rfl⟩ := List.mem_map.1 hc
  rfl) H
theorem VL6.pureC {x : AV} {vs : List V6} (h : VL6 x vs) : Zz.pureC x = true := by
  have := h.byVal []
  obtain ⟨_, ⟨rfl, _⟩ | ⟨f, rfl⟩⟩ := h
  · rfl
  · simp only [Zz.byVal, Zz.byC] at this
    split at this
    · assumption
    · cases this
theorem VL6.pureA {x : AV} {vs : List V6} (h : VL6 x vs) : Zz.pureA x = true := by
  have := h.pureC
  obtain ⟨_, ⟨rfl, _⟩ | ⟨f, rfl⟩⟩ := h <;> exact this
def okVs (vs : List V6) : Prop := ∀ v ∈ vs, v.ok 48
instance (vs : List V6) : Decidable (okVs vs) := by unfold okVs; infer_instance
theorem okVs.at {vs : List V6} (h : okVs vs) {i : Nat} (hi : i < vs.length) : (nv vs i).ok 48 := by rw [nv_lt hi]; exact h _ (List.getElem_mem hi)

/-- A pipe that lacks so much is in tune with a note. -/
def tuneP (p : Pipe) (v : V6) (tol l w : Int) : Prop := -(tol * 10000) ≤ gLo p.p v.of + shiftOf p l w ∧ gHi p.p v.of + shiftOf p l w ≤ tol * 10000
instance (p : Pipe) (v : V6) (tol l w : Int) : Decidable (tuneP p v tol l w) := by unfold tuneP; infer_instance
def playsP (ps : List Pipe) (sup tol : Int) (ids : List Int) (vs : List V6) (w : Int) : Prop := ∀ i, i < ids.length → tuneP (pipeOf ps (ids.getD i 0)) (nv vs i) tol (lacks ps sup ids) w
instance (ps : List Pipe) (sup tol : Int) (ids : List Int) (vs : List V6) (w : Int) : Decidable (playsP ps sup tol ids vs w) := by unfold playsP; infer_instance
theorem gap_bnd {a b : V6} (ha : a.ok 576) (hb : b.ok 576) : -28800000000000 ≤ gLo a b ∧ gLo a b ≤ gHi a b ∧ gHi a b ≤ 28800000000000 := by
  have hs := V6.small (sub_ok ha hb) (by omega)
  have h1 := eLo_bnd hs 6 (by omega)
  have h2 := eHi_bnd hs 6 (by omega)
  have h3 := eLo_le (es := (a.sub b).l) 6 (by omega)
  unfold gLo gHi
  omega
theorem tune_with {p : Pipe} {v : V6} {tol l w : Int} (hp : p.p.ok 576) (hv : v.ok 48) (h0 : 0 ≤ tol) (h1 : tol ≤ 50000) :
    (tuneP p v tol l w → withV (gLo p.p v.of + shiftOf p l w) (gHi p.p v.of + shiftOf p l w) (0 - tol * 10000) (tol * 10000) = .tuple [.int .i64 1, .int .i64 0]) ∧
    (¬ tuneP p v tol l w → ∃ n e : Int, (e ≠ 0 ∨ n ≠ 1) ∧ withV (gLo p.p v.of + shiftOf p l w) (gHi p.p v.of + shiftOf p l w) (0 - tol * 10000) (tol * 10000) = .tuple [.int .i64 n, .int .i64 e]) := by
  obtain ⟨g1, g2, g3⟩ := gap_bnd hp (of_ok hv)
  constructor
  · rintro ⟨t1, t2⟩
    unfold withV
    rw [if_pos ⟨⟨by omega, by omega, by omega⟩, by omega⟩, sur_one.2 ⟨by omega, by omega⟩]
  · intro ht
    unfold withV
    split
    · refine ⟨_, 0, .inr fun h => ht ?_, rfl⟩
      obtain ⟨u1, u2⟩ := sur_one.1 h
      exact ⟨by omega, by omega⟩
    · exact ⟨0, 1, .inl (by decide), rfl⟩

theorem f53 {pv iv vv : AV} {ps : List Pipe} {ids : List Int} {vs : List V6} {sup tol w : Int} (hq : PpL pv ps) (hmax : ps.length < 9223372036854775807) (hiv : IntS iv ids) (hvv : VL6 vv vs) (hl : ids.length ≤ vs.length) (h12 : ids.length ≤ 1000) (hvs : okVs vs) (hv : VO ps sup tol) (hw : -100 ≤ w ∧ w ≤ 100) :
    WF E30 (.func 53 [] []) [.agg [pv, .int .i64 sup, .int .i64 tol], iv, vv, .int .i64 w] ⟨[], []⟩ fun y m' => y = .bool (decide (playsP ps sup tol ids vs w)) := by
  have hil := hiv.len
  have ht := hv.2.2.2
  have hb := lacks_bnd hv h12
  have h46 := fun m => s46 (sup := sup) (tol := tol) hq hmax hiv hv (by omega) (m := m)
  have e1 : max 0 (dem ps ids - sup) = lacks ps sup ids := rfl
  rw [e1] at h46
  have hic2 := hiv.cells
  unfold AV.cells at hic2
  refine WF.fnE rfl (fn_of Tryd.func53 cir53) (by show 4 ≤ 75; decide) ?_
  unfold ir53
  simp only [padTo, List.replicate, List.nil_append, List.append_nil, List.cons_append]
  repeat' (first | (refine WO.opE (by intro; simp (disch := omega) only [go_sem, zeros, Zz.look, List.append_assoc, List.length_append, ov_one0, ov_all2, ov_all6, Nat.reduceAdd, Nat.reduceMul, Nat.reduceSub, Nat.reduceLeDiff, Nat.reduceEqDiff, Int.reduceNeg, Int.reduceAdd, Int.reduceToNat, reduceIte, reduceCtorEq, over5]; rfl) (by simp only [pt8, pt0, pt1, pt2, pt3, pt4, pt5, pt6, pt7]; rfl) ?_) | (refine WO.opE (by intro; exact ev_lenS (by simp only [go_sem]; first | rfl | assumption)) (by simp only [pt8, pt0, pt1, pt2, pt3, pt4, pt5, pt6, pt7]; rfl) ?_) | (refine WT.spec rfl rfl (fun V => h46 _) (by simp only [pt8, pt0, pt1, pt2, pt3, pt4, pt5, pt6, pt7]; rfl) ?_) | (refine WC.seq ?_) | (refine WC.region ?_) | (refine WO.nil ?_) | (simp only [fl1, fl2, fl3, fl4, fl5, fl6, fl7, fl8, fl9, fl10, Nat.reduceBEq]) | (refine WC.drawT ?_) | (refine WT.nil ?_) | (refine WT.free rfl (by intro; simp (disch := omega) only [go_sem, zeros, Zz.look, List.append_assoc, List.length_append, ov_one0, ov_all2, ov_all6, Nat.reduceAdd, Nat.reduceMul, Nat.reduceSub, Nat.reduceLeDiff, Nat.reduceEqDiff, Int.reduceNeg, Int.reduceAdd, Int.reduceToNat, reduceIte, reduceCtorEq, over5]; rfl) rfl (by simp only [pt8, pt0, pt1, pt2, pt3, pt4, pt5, pt6, pt7]; rfl) ?_) | (refine WT.big rfl rfl (by intro; simp (disch := omega) only [go_sem, zeros, Zz.look, List.append_assoc, List.length_append, ov_one0, ov_all2, ov_all6, Nat.reduceAdd, Nat.reduceMul, Nat.reduceSub, Nat.reduceLeDiff, Nat.reduceEqDiff, Int.reduceNeg, Int.reduceAdd, Int.reduceToNat, reduceIte, reduceCtorEq, over5]; rfl) (by simp (disch := omega) only [go_sem, zeros, Zz.look, List.append_assoc, List.length_append, ov_one0, ov_all2, ov_all6, Nat.reduceAdd, Nat.reduceMul, Nat.reduceSub, Nat.reduceLeDiff, Nat.reduceEqDiff, Int.reduceNeg, Int.reduceAdd, Int.reduceToNat, reduceIte, reduceCtorEq, over5, touch]; rfl) (by first | exact .inl rfl | exact .inr (apart_nil _) | (right; apply apart_mk; simp only [apartL, List.nil_append, List.cons_append, List.getElem?_cons_succ, List.getElem?_cons_zero, Tch.free, and_true, true_and]; first | done | omega)) (by simp only [pt8, pt0, pt1, pt2, pt3, pt4, pt5, pt6, pt7]; rfl) ?_) | (refine WT.bigN rfl rfl (by intro; simp (disch := omega) only [go_sem, zeros, Zz.look, List.append_assoc, List.length_append, ov_one0, ov_all2, ov_all6, Nat.reduceAdd, Nat.reduceMul, Nat.reduceSub, Nat.reduceLeDiff, Nat.reduceEqDiff, Int.reduceNeg, Int.reduceAdd, Int.reduceToNat, reduceIte, reduceCtorEq, over5]; rfl) (by simp (disch := omega) only [go_sem, zeros, Zz.look, List.append_assoc, List.length_append, ov_one0, ov_all2, ov_all6, Nat.reduceAdd, Nat.reduceMul, Nat.reduceSub, Nat.reduceLeDiff, Nat.reduceEqDiff, Int.reduceNeg, Int.reduceAdd, Int.reduceToNat, reduceIte, reduceCtorEq, over5, touch]; rfl) (by first | exact .inl rfl | exact .inr (apart_nil _) | (right; apply apart_mk; simp only [apartL, List.nil_append, List.cons_append, List.getElem?_cons_succ, List.getElem?_cons_zero, Tch.free, and_true, true_and]; first | done | omega)) ?_) | (refine WC.block ?_))
  refine WC.loopI (fun m s => ∃ T R i, s = ⟨T, some ⟨0, [pv, .int .i64 sup, .int .i64 tol]⟩ :: some ⟨0, [pv, .int .i64 sup, .int .i64 tol, iv, .int .i64 (lacks ps sup ids)]⟩ :: R, []⟩ ∧ T.length = 75 ∧ gt T 2 = vv ∧ gt T 3 = .int .i64 w ∧ gt T 4 = .pref 0 0 0 ∧ gt T 9 = .pref 1 0 0 ∧ gt T 10 = .int .i64 (tol * 10000) ∧ gt T 27 = iv ∧ gt T 28 = .int .i64 (ids.length : Nat) ∧ gt T 29 = .int .i64 (i : Nat) ∧ m + i = ids.length ∧ ∀ j, j < i → tuneP (pipeOf ps (ids.getD j 0)) (nv vs j) tol (lacks ps sup ids) w) ?_ ids.length _ ⟨_, [], 0, rfl, rfl, rfl, rfl, rfl, rfl, rfl, rfl, rfl, rfl, by omega, fun j hj => by omega⟩
  rintro m _ ⟨T, R, i, rfl, hT, g2, g3, g4, g9, g10, g27, g28, g29, hm, hi⟩
  obtain ⟨f, rfl⟩ := ex75 hT
  clear hT
  replace g2 : f 2 = vv := g2
  replace g3 : f 3 = .int .i64 w := g3
  replace g4 : f 4 = .pref 0 0 0 := g4
  replace g9 : f 9 = .pref 1 0 0 := g9
  replace g10 : f 10 = .int .i64 (tol * 10000) := g10
  replace g27 : f 27 = iv := g27
  replace g28 : f 28 = .int .i64 (ids.length : Nat) := g28
  replace g29 : f 29 = .int .i64 (i : Nat) := g29
  simp only [g2, g3, g4, g9, g10, g27, g28, g29]
  by_cases hin : i < ids.length
  · have hvi := hvs.at (i := i) (by omega)
    have hpo := hv.pok (ids.getD i 0)
    have hp44 := (hv.at (ids.getD i 0)).2.2
    have h76 := fun m => s76 hvi (m := m)
    have h77 := fun m => s77 (a := (pipeOf ps (ids.getD i 0)).p) (b := (nv vs i).of) (m := m)
    have eg : gapV (pipeOf ps (ids.getD i 0)).p (nv vs i).of = .tuple [.agg [.int .i64 (gLo (pipeOf ps (ids.getD i 0)).p (nv vs i).of), .int .i64 (gHi (pipeOf ps (ids.getD i 0)).p (nv vs i).of)], .int .i64 0] := if_pos ⟨hpo, of_ok hvi⟩
    rw [eg] at h77
    obtain ⟨g1, g2, g3⟩ := gap_bnd hpo (of_ok hvi)
    have m1 := mul_bnd hp44.2.2.1 hp44.2.2.2 hw.1 hw.2
    have m2 := mul_bnd hp44.1 hp44.2.1 (b := lacks ps sup ids) (B := 1000000000) (by omega) (by omega)
    have h44 := fun m => s44 (p := pipeOf ps (ids.getD i 0)) (sup := sup) (tol := tol) hq hiv hp44 hw (show 0 ≤ lacks ps sup ids ∧ lacks ps sup ids ≤ 1000000000 by omega) (m := m)
    have hsb : -1000000000000000000 ≤ (pipeOf ps (ids.getD i 0)).warm * w - (pipeOf ps (ids.getD i 0)).sag * lacks ps sup ids ∧ (pipeOf ps (ids.getD i 0)).warm * w - (pipeOf ps (ids.getD i 0)).sag * lacks ps sup ids ≤ 1000000000000000000 := by omega
    have h65 := fun m => s65 (lo := gLo (pipeOf ps (ids.getD i 0)).p (nv vs i).of) (hi := gHi (pipeOf ps (ids.getD i 0)).p (nv vs i).of) (k := (pipeOf ps (ids.getD i 0)).warm * w - (pipeOf ps (ids.getD i 0)).sag * lacks ps sup ids) ⟨by omega, by omega, by omega, by omega, hsb.1, hsb.2⟩ (m := m)
    obtain ⟨tw1, tw2⟩ := tune_with (l := lacks ps sup ids) (w := w) hpo hvi ht.1 ht.2
    have h78 := fun m => s78 (lo := gLo (pipeOf ps (ids.getD i 0)).p (nv vs i).of + ((pipeOf ps (ids.getD i 0)).warm * w - (pipeOf ps (ids.getD i 0)).sag * lacks ps sup ids)) (hi := gHi (pipeOf ps (ids.getD i 0)).p (nv vs i).of + ((pipeOf ps (ids.getD i 0)).warm * w - (pipeOf ps (ids.getD i 0)).sag * lacks ps sup ids)) (low := 0 - tol * 10000) (high := tol * 10000) (m := m)
    by_cases htu : tuneP (pipeOf ps (ids.getD i 0)) (nv vs i) tol (lacks ps sup ids) w
    · have et := tw1 htu
      unfold shiftOf at et
      rw [et] at h78
      repeat' (first | (refine WO.yes rfl ?_) | (refine WO.opE (by intro; simp (disch := omega) only [go_sem, zeros, Zz.look, List.append_assoc, List.length_append, ov_one0, ov_all2, ov_all6, Nat.reduceAdd, Nat.reduceMul, Nat.reduceSub, Nat.reduceLeDiff, Nat.reduceEqDiff, Int.reduceNeg, Int.reduceAdd, Int.reduceToNat, reduceIte, reduceCtorEq, hiv.atI, hvv.at, Pipe.cells, V6.cells, over10, cut10, cut6, app_g0, app_g1, app_g2, app_g3, app_g4, app_s0, app_s1, app_s2, app_s3, app_s4]; rfl) (by simp only [pt8, pt0, pt1, pt2, pt3, pt4, pt5, pt6, pt7]; rfl) ?_) | (refine WO.opN (by intro; simp (disch := omega) only [go_sem, zeros, Zz.look, List.append_assoc, List.length_append, ov_one0, ov_all2, ov_all6, Nat.reduceAdd, Nat.reduceMul, Nat.reduceSub, Nat.reduceLeDiff, Nat.reduceEqDiff, Int.reduceNeg, Int.reduceAdd, Int.reduceToNat, reduceIte, reduceCtorEq, hiv.atI, hvv.at, Pipe.cells, V6.cells, over10, cut10, cut6, app_g0, app_g1, app_g2, app_g3, app_g4, app_s0, app_s1, app_s2, app_s3, app_s4]; rfl) ?_) | (refine WO.specE rfl rfl (s43 hq hmax) (by simp only [pt8, pt0, pt1, pt2, pt3, pt4, pt5, pt6, pt7]; rfl) ?_) | (refine WO.specE rfl rfl (h76 _) (by simp only [pt8, pt0, pt1, pt2, pt3, pt4, pt5, pt6, pt7]; rfl) ?_) | (refine WO.specE rfl rfl (h77 _) (by simp only [pt8, pt0, pt1, pt2, pt3, pt4, pt5, pt6, pt7]; rfl) ?_) | (refine WT.spec rfl rfl (fun V => h44 _) (by simp only [pt8, pt0, pt1, pt2, pt3, pt4, pt5, pt6, pt7]; rfl) ?_) | (refine WT.spec rfl rfl (fun V => h65 _) (by simp only [pt8, pt0, pt1, pt2, pt3, pt4, pt5, pt6, pt7]; rfl) ?_) | (refine WT.spec rfl rfl (fun V => h78 _) (by simp only [pt8, pt0, pt1, pt2, pt3, pt4, pt5, pt6, pt7]; rfl) ?_) | (refine WC.seq ?_) | (refine WC.region ?_) | (refine WO.nil ?_) | (simp only [fl1, fl2, fl3, fl4, fl5, fl6, fl7, fl8, fl9, fl10, Nat.reduceBEq]) | (refine WC.drawT ?_) | (refine WT.nil ?_) | (refine WT.free rfl (by intro; simp (disch := omega) only [go_sem, zeros, Zz.look, List.append_assoc, List.length_append, ov_one0, ov_all2, ov_all6, Nat.reduceAdd, Nat.reduceMul, Nat.reduceSub, Nat.reduceLeDiff, Nat.reduceEqDiff, Int.reduceNeg, Int.reduceAdd, Int.reduceToNat, reduceIte, reduceCtorEq, hiv.atI, hvv.at, Pipe.cells, V6.cells, over10, cut10, cut6, app_g0, app_g1, app_g2, app_g3, app_g4, app_s0, app_s1, app_s2, app_s3, app_s4]; rfl) rfl (by simp only [pt8, pt0, pt1, pt2, pt3, pt4, pt5, pt6, pt7]; rfl) ?_) | (refine WT.big rfl rfl (by intro; simp (disch := omega) only [go_sem, zeros, Zz.look, List.append_assoc, List.length_append, ov_one0, ov_all2, ov_all6, Nat.reduceAdd, Nat.reduceMul, Nat.reduceSub, Nat.reduceLeDiff, Nat.reduceEqDiff, Int.reduceNeg, Int.reduceAdd, Int.reduceToNat, reduceIte, reduceCtorEq, hiv.atI, hvv.at, Pipe.cells, V6.cells, over10, cut10, cut6, app_g0, app_g1, app_g2, app_g3, app_g4, app_s0, app_s1, app_s2, app_s3, app_s4]; rfl) (by simp (disch := omega) only [go_sem, zeros, Zz.look, List.append_assoc, List.length_append, ov_one0, ov_all2, ov_all6, Nat.reduceAdd, Nat.reduceMul, Nat.reduceSub, Nat.reduceLeDiff, Nat.reduceEqDiff, Int.reduceNeg, Int.reduceAdd, Int.reduceToNat, reduceIte, reduceCtorEq, hiv.atI, hvv.at, Pipe.cells, V6.cells, over10, cut10, cut6, app_g0, app_g1, app_g2, app_g3, app_g4, app_s0, app_s1, app_s2, app_s3, app_s4, touch]; rfl) (by first | exact .inl rfl | exact .inr (apart_nil _) | (right; apply apart_mk; simp only [apartL, List.nil_append, List.cons_append, List.getElem?_cons_succ, List.getElem?_cons_zero, Tch.free, and_true, true_and]; first | done | omega)) (by simp only [pt8, pt0, pt1, pt2, pt3, pt4, pt5, pt6, pt7]; rfl) ?_) | (refine WC.no rfl ?_) | (refine WC.skip ?_) | (refine WC.block ?_) | (refine WC.em2 rfl (fun hp => ?_) (fun hp => ?_) <;> try (exfalso; first | omega | contradiction)))
      exact ⟨m - 1, by omega, _, _, i + 1, rfl, rfl, rfl, rfl, rfl, rfl, rfl, rfl, rfl, rfl, by omega, fun j hj => by
        by_cases e : j = i
        · subst e; exact htu
        · exact hi j (by omega)⟩
    · obtain ⟨n, e, hne, et⟩ := tw2 htu
      unfold shiftOf at et
      rw [et] at h78
      repeat' (first | (refine WO.yes rfl ?_) | (refine WO.noE rfl (by simp only [pt8, pt0, pt1, pt2, pt3, pt4, pt5, pt6, pt7]; rfl) ?_) | (refine WO.opE (by intro; simp (disch := omega) only [go_sem, zeros, Zz.look, List.append_assoc, List.length_append, ov_one0, ov_all2, ov_all6, Nat.reduceAdd, Nat.reduceMul, Nat.reduceSub, Nat.reduceLeDiff, Nat.reduceEqDiff, Int.reduceNeg, Int.reduceAdd, Int.reduceToNat, reduceIte, reduceCtorEq, hiv.atI, hvv.at, Pipe.cells, V6.cells, over10, cut10, cut6, app_g0, app_g1, app_g2, app_g3, app_g4, app_s0, app_s1, app_s2, app_s3, app_s4]; rfl) (by simp only [pt8, pt0, pt1, pt2, pt3, pt4, pt5, pt6, pt7]; rfl) ?_) | (refine WO.opN (by intro; simp (disch := omega) only [go_sem, zeros, Zz.look, List.append_assoc, List.length_append, ov_one0, ov_all2, ov_all6, Nat.reduceAdd, Nat.reduceMul, Nat.reduceSub, Nat.reduceLeDiff, Nat.reduceEqDiff, Int.reduceNeg, Int.reduceAdd, Int.reduceToNat, reduceIte, reduceCtorEq, hiv.atI, hvv.at, Pipe.cells, V6.cells, over10, cut10, cut6, app_g0, app_g1, app_g2, app_g3, app_g4, app_s0, app_s1, app_s2, app_s3, app_s4]; rfl) ?_) | (refine WO.specE rfl rfl (s43 hq hmax) (by simp only [pt8, pt0, pt1, pt2, pt3, pt4, pt5, pt6, pt7]; rfl) ?_) | (refine WO.specE rfl rfl (h76 _) (by simp only [pt8, pt0, pt1, pt2, pt3, pt4, pt5, pt6, pt7]; rfl) ?_) | (refine WO.specE rfl rfl (h77 _) (by simp only [pt8, pt0, pt1, pt2, pt3, pt4, pt5, pt6, pt7]; rfl) ?_) | (refine WT.spec rfl rfl (fun V => h44 _) (by simp only [pt8, pt0, pt1, pt2, pt3, pt4, pt5, pt6, pt7]; rfl) ?_) | (refine WT.spec rfl rfl (fun V => h65 _) (by simp only [pt8, pt0, pt1, pt2, pt3, pt4, pt5, pt6, pt7]; rfl) ?_) | (refine WT.spec rfl rfl (fun V => h78 _) (by simp only [pt8, pt0, pt1, pt2, pt3, pt4, pt5, pt6, pt7]; rfl) ?_) | (refine WC.seq ?_) | (refine WC.region ?_) | (refine WO.nil ?_) | (simp only [fl1, fl2, fl3, fl4, fl5, fl6, fl7, fl8, fl9, fl10, Nat.reduceBEq]) | (refine WC.drawT ?_) | (refine WT.nil ?_) | (refine WT.free rfl (by intro; simp (disch := omega) only [go_sem, zeros, Zz.look, List.append_assoc, List.length_append, ov_one0, ov_all2, ov_all6, Nat.reduceAdd, Nat.reduceMul, Nat.reduceSub, Nat.reduceLeDiff, Nat.reduceEqDiff, Int.reduceNeg, Int.reduceAdd, Int.reduceToNat, reduceIte, reduceCtorEq, hiv.atI, hvv.at, Pipe.cells, V6.cells, over10, cut10, cut6, app_g0, app_g1, app_g2, app_g3, app_g4, app_s0, app_s1, app_s2, app_s3, app_s4]; rfl) rfl (by simp only [pt8, pt0, pt1, pt2, pt3, pt4, pt5, pt6, pt7]; rfl) ?_) | (refine WT.big rfl rfl (by intro; simp (disch := omega) only [go_sem, zeros, Zz.look, List.append_assoc, List.length_append, ov_one0, ov_all2, ov_all6, Nat.reduceAdd, Nat.reduceMul, Nat.reduceSub, Nat.reduceLeDiff, Nat.reduceEqDiff, Int.reduceNeg, Int.reduceAdd, Int.reduceToNat, reduceIte, reduceCtorEq, hiv.atI, hvv.at, Pipe.cells, V6.cells, over10, cut10, cut6, app_g0, app_g1, app_g2, app_g3, app_g4, app_s0, app_s1, app_s2, app_s3, app_s4]; rfl) (by simp (disch := omega) only [go_sem, zeros, Zz.look, List.append_assoc, List.length_append, ov_one0, ov_all2, ov_all6, Nat.reduceAdd, Nat.reduceMul, Nat.reduceSub, Nat.reduceLeDiff, Nat.reduceEqDiff, Int.reduceNeg, Int.reduceAdd, Int.reduceToNat, reduceIte, reduceCtorEq, hiv.atI, hvv.at, Pipe.cells, V6.cells, over10, cut10, cut6, app_g0, app_g1, app_g2, app_g3, app_g4, app_s0, app_s1, app_s2, app_s3, app_s4, touch]; rfl) (by first | exact .inl rfl | exact .inr (apart_nil _) | (right; apply apart_mk; simp only [apartL, List.nil_append, List.cons_append, List.getElem?_cons_succ, List.getElem?_cons_zero, Tch.free, and_true, true_and]; first | done | omega)) (by simp only [pt8, pt0, pt1, pt2, pt3, pt4, pt5, pt6, pt7]; rfl) ?_) | (refine WC.yes rfl ?_) | (refine WC.skip ?_) | (refine WC.ret ?_) | (refine WC.block ?_) | (refine WO.em2 rfl (by intro hp; simp only [hp, decide_true]; rfl) (by intro hp; simp only [hp, decide_false]; rfl) (fun hp => ?_) (fun hp => ?_) <;> try (exfalso; first | omega | contradiction)) | (refine WC.em2 rfl (fun hp => ?_) (fun hp => ?_) <;> try (exfalso; first | omega | contradiction)))
      all_goals
        refine ⟨_, rfl, ?_⟩
        simp only [oneRes, gt8, gt0, gt1, gt2, gt3, gt4, gt5, gt6, gt7, AV.bool.injEq]
        symm
        rw [decide_eq_false_iff_not]
        exact fun h => htu (h i hin)
  · have hi' : i = ids.length := by omega
    subst hi'
    repeat' (first | (refine WO.opE (by intro; simp (disch := omega) only [go_sem, zeros, Zz.look, List.append_assoc, List.length_append, ov_one0, ov_all2, ov_all6, Nat.reduceAdd, Nat.reduceMul, Nat.reduceSub, Nat.reduceLeDiff, Nat.reduceEqDiff, Int.reduceNeg, Int.reduceAdd, Int.reduceToNat, reduceIte, reduceCtorEq]; rfl) (by simp only [pt8, pt0, pt1, pt2, pt3, pt4, pt5, pt6, pt7]; rfl) ?_) | (refine WC.seq ?_) | (refine WC.region ?_) | (refine WO.nil ?_) | (simp only [fl1, fl2, fl3, fl4, fl5, fl6, fl7, fl8, fl9, fl10, Nat.reduceBEq]) | (refine WC.exit ?_) | (refine WC.ret ?_) | (refine WC.em2 rfl (fun hp => ?_) (fun hp => ?_) <;> try (exfalso; first | omega | contradiction)))
    refine ⟨_, rfl, ?_⟩
    simp only [oneRes, gt8, gt0, gt1, gt2, gt3, gt4, gt5, gt6, gt7, AV.bool.injEq]
    symm
    rw [decide_eq_true_iff]
    exact hi
theorem s53 {pv iv iv' vv : AV} {ps : List Pipe} {ids : List Int} {vs : List V6} {sup tol w : Int} (hq : PpL pv ps) (hmax : ps.length < 9223372036854775807) (hiv : IntS iv ids) (hvv : VL6 vv vs) (hl : ids.length ≤ vs.length) (h12 : ids.length ≤ 1000) (hvs : okVs vs) (hv : VO ps sup tol) (hw : -100 ≤ w ∧ w ≤ 100) {m : Mem} (h : Zz.byVal m.heap iv' = some iv) :
    borrowX E30 53 [.agg [pv, .int .i64 sup, .int .i64 tol], iv', vv, .int .i64 w] m = some (.bool (decide (playsP ps sup tol ids vs w)), m) :=
  borrowX_of (byVals_cons (byO hq) (byVals_cons h (byVals_cons (hvv.byVal _) (byVals_cons rfl rfl)))) ((f53 hq hmax hiv hvv hl h12 hvs hv hw).mono fun y m' h => by rw [h]; rfl)

noncomputable def E31 : Env := E30.put 53 (borrowX E30 53)
theorem E31_ok : EnvOk Tryd.prog E31 := Env.put_ok E30_ok (borrowX_ok E30_ok (callable Tryd.func53 (by kernel_rfl)))
/-! ### The search -/
def dfs (Q : List Int → Bool) : List (List Int) → List Int → Option (List Int)
  | [], pre => if Q pre then some pre else none
  | l :: ls, pre => l.findSome? fun id => if id ∈ pre then none else dfs Q ls (pre ++ [id])
theorem dfs_len {Q : List Int → Bool} : ∀ {ls : List (List Int)} {pre r : List Int}, dfs Q ls pre = some r → r.length = pre.length + ls.length
  | [], pre, r, h => by
    unfold dfs at h
    split at h
    · cases h; simp
    · cases h
  | l :: ls, pre, r, h => by
    unfold dfs at h
    obtain ⟨id, _, h2⟩ := List.exists_of_findSome?_eq_some h
    split at h2
    · cases h2
    · have := dfs_len h2
      simp at this ⊢
      omega
/-- The memory of a search: the slice of IDs and its cells change. -/
structure SF (A : Nat → List AV → Hp) (pv vv : AV) (sup tol w : Int) (lists : List AV) (k N b0 b1 b2 b3 b4 b5 qi ql gl : Nat) : Prop where
  len : ∀ n c, (A n c).length = N
  l0 : ∀ n c X, Zz.look (A n c ++ X) b0 0 = some [.sref qi 0 0 1 n (some k)]
  l1 : ∀ n c X, Zz.look (A n c ++ X) b1 0 = some [vv]
  l2 : ∀ n c X, Zz.look (A n c ++ X) b2 0 = some [pv, .int .i64 sup, .int .i64 tol]
  l3 : ∀ n c X, Zz.look (A n c ++ X) b3 0 = some [.int .i64 w]
  l4 : ∀ n c X, Zz.look (A n c ++ X) b4 0 = some [.sref ql gl 0 1 lists.length none] ∨ lists = []
  l5 : ∀ n c X, Zz.look (A n c ++ X) b5 0 = some [.func 52 [] [.pref b0 0 0, .pref b1 0 0, .pref b2 0 0, .pref b3 0 0, .pref b4 0 0, .pref b5 0 0]]
  lq : ∀ n c X, Zz.look (A n c ++ X) qi 0 = some c
  ll : ∀ n c X, Zz.look (A n c ++ X) ql gl = some lists ∨ lists = []
  s0 : ∀ n n' c X, (A n c ++ X).set b0 (some ⟨0, [.sref qi 0 0 1 n' (some k)]⟩) = A n' c ++ X
  sq : ∀ n c c' X, (A n c ++ X).set qi (some ⟨0, c'⟩) = A n c' ++ X
end Go.Proofs.YtjbdefmhjmkifaaDoor

