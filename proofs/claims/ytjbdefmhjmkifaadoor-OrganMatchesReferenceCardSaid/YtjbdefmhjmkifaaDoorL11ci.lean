import Derived.Test.YtjbdefmhjmkifaaDoorIr11xc10
import Derived.Test.YtjbdefmhjmkifaaDoorL11ch

set_option linter.unusedSimpArgs false
set_option linter.unusedVariables false
namespace Go.Proofs.YtjbdefmhjmkifaaDoor
open Go.Zz
set_option maxRecDepth 100000
set_option maxHeartbeats 4000000
theorem s80 {a b c d e f : Int} (hs : Small [a, b, c, d, e, f]) {m : Mem} : borrowE C10 80 [.agg [.int .i64 a, .int .i64 b, .int .i64 c, .int .i64 d, .int .i64 e, .int .i64 f]] m = some (.agg [.int .i64 (eLo [a, b, c, d, e, f] 6), .int .i64 (eHi [a, b, c, d, e, f] 6)], m) :=
  borrowE_of rfl ((f80 (es := [a, b, c, d, e, f]) rfl hs).mono fun y m' h => by rw [h]; rfl)

noncomputable def C11 : Env := C10.put 80 (borrowE C10 80)
theorem C11_ok : EnvOk Tryd.prog C11 := Env.put_ok C10_ok (borrowE_ok C10_ok (callable Tryd.func80 (by kernel_rfl)))
/-- The reference's Gap. -/
theorem f58 {a b : V6} : WF C11 (.func 58 [] []) [.agg a.cells, .agg b.cells] ⟨[], []⟩ fun y m' => y = gapV a b := by
  by_cases hok : a.ok 576 ∧ b.ok 576
  · have hs := V6.small (sub_ok hok.1 hok.2) (by omega)
    obtain ⟨ha, hb⟩ := hok
    have e : gapV a b = .tuple [.agg [.int .i64 (gLo a b), .int .i64 (gHi a b)], .int .i64 0] := if_pos ⟨ha, hb⟩
    rw [e]
    obtain ⟨a0, a1, a2, a3, a4, a5⟩ := a
    obtain ⟨b0, b1, b2, b3, b4, b5⟩ := b
    have h1 : wi6 a0 a1 a2 a3 a4 a5 576 := ha
    have h2 : wi6 b0 b1 b2 b3 b4 b5 576 := hb
    have h1' := h1
    have h2' := h2
    unfold wi6 at h1' h2'
    have hs' : Small [a0 - b0, a1 - b1, a2 - b2, a3 - b3, a4 - b4, a5 - b5] := hs
    refine WF.fnE rfl (fn_of Tryd.func58 cir58) (by show 2 ≤ 33; decide) ?_
    unfold ir58
    simp only [padTo, List.replicate, List.nil_append, List.append_nil, List.cons_append]
    repeat' (first | (refine WO.yes rfl ?_) | (refine WO.opE (by intro; simp (disch := omega) only [go_sem, zeros, Zz.look, Zz.cut, List.append_assoc, List.length_append, ov_one0, ov_one1, ov_one2, ov_one3, ov_one4, ov_one5, ov_all2, ov_all6, Nat.reduceAdd, Nat.reduceMul, Nat.reduceSub, Nat.reduceLeDiff, Nat.reduceEqDiff, Int.reduceNeg, Int.reduceAdd, Int.reduceToNat, reduceIte, reduceCtorEq, V6.cells, idx]; rfl) (by simp only [pt8, pt0, pt1, pt2, pt3, pt4, pt5, pt6, pt7]; rfl) ?_) | (refine WO.opN (by intro; simp (disch := omega) only [go_sem, zeros, Zz.look, Zz.cut, List.append_assoc, List.length_append, ov_one0, ov_one1, ov_one2, ov_one3, ov_one4, ov_one5, ov_all2, ov_all6, Nat.reduceAdd, Nat.reduceMul, Nat.reduceSub, Nat.reduceLeDiff, Nat.reduceEqDiff, Int.reduceNeg, Int.reduceAdd, Int.reduceToNat, reduceIte, reduceCtorEq, V6.cells, idx]; rfl) ?_) | (refine WO.specE rfl rfl (s61) (by simp only [pt8, pt0, pt1, pt2, pt3, pt4, pt5, pt6, pt7]; rfl) ?_) | (refine WO.specE rfl rfl (s80 hs') (by simp only [pt8, pt0, pt1, pt2, pt3, pt4, pt5, pt6, pt7]; rfl) ?_) | (refine WC.loop ?_) | (refine WC.seq ?_) | (refine WC.region ?_) | (refine WO.nil ?_) | (simp only [fl1, fl2, fl3, fl4, fl5, fl6, fl7, fl8, fl9, fl10, Nat.reduceBEq]) | (refine WC.calm rfl ?_) | (refine WC.yes rfl ?_) | (refine WC.no rfl ?_) | (refine WC.skip ?_) | (refine WC.exit ?_) | (refine WC.ret ?_) | (refine WC.block ?_) | (refine WO.em2 rfl (by intro hp; simp only [hp, decide_true]; rfl) (by intro hp; simp only [hp, decide_false]; rfl) (fun hp => ?_) (fun hp => ?_) <;> try (exfalso; first | omega | contradiction)) | (refine WC.em2 rfl (fun hp => ?_) (fun hp => ?_) <;> try (exfalso; first | omega | contradiction)))
    exact ⟨_, rfl, rfl⟩
  · have e : gapV a b = .tuple [.agg [.int .i64 0, .int .i64 0], .int .i64 1] := if_neg hok
    rw [e]
    obtain ⟨a0, a1, a2, a3, a4, a5⟩ := a
    obtain ⟨b0, b1, b2, b3, b4, b5⟩ := b
    have hok2 : ¬ (wi6 a0 a1 a2 a3 a4 a5 576 ∧ wi6 b0 b1 b2 b3 b4 b5 576) := hok
    refine WF.fnE rfl (fn_of Tryd.func58 cir58) (by show 2 ≤ 33; decide) ?_
    unfold ir58
    simp only [padTo, List.replicate, List.nil_append, List.append_nil, List.cons_append]
    repeat' (first | (refine WO.yes rfl ?_) | (refine WO.noE rfl (by simp only [pt8, pt0, pt1, pt2, pt3, pt4, pt5, pt6, pt7]; rfl) ?_) | (refine WO.opE (by intro; simp (disch := omega) only [go_sem, zeros, Zz.look, Zz.cut, List.append_assoc, List.length_append, ov_one0, ov_one1, ov_one2, ov_one3, ov_one4, ov_one5, ov_all2, ov_all6, Nat.reduceAdd, Nat.reduceMul, Nat.reduceSub, Nat.reduceLeDiff, Nat.reduceEqDiff, Int.reduceNeg, Int.reduceAdd, Int.reduceToNat, reduceIte, reduceCtorEq, V6.cells, idx]; rfl) (by simp only [pt8, pt0, pt1, pt2, pt3, pt4, pt5, pt6, pt7]; rfl) ?_) | (refine WO.opN (by intro; simp (disch := omega) only [go_sem, zeros, Zz.look, Zz.cut, List.append_assoc, List.length_append, ov_one0, ov_one1, ov_one2, ov_one3, ov_one4, ov_one5, ov_all2, ov_all6, Nat.reduceAdd, Nat.reduceMul, Nat.reduceSub, Nat.reduceLeDiff, Nat.reduceEqDiff, Int.reduceNeg, Int.reduceAdd, Int.reduceToNat, reduceIte, reduceCtorEq, V6.cells, idx]; rfl) ?_) | (refine WO.specE rfl rfl (s61) (by simp only [pt8, pt0, pt1, pt2, pt3, pt4, pt5, pt6, pt7]; rfl) ?_) | (refine WC.seq ?_) | (refine WC.region ?_) | (refine WO.nil ?_) | (simp only [fl1, fl2, fl3, fl4, fl5, fl6, fl7, fl8, fl9, fl10, Nat.reduceBEq]) | (refine WC.yes rfl ?_) | (refine WC.skip ?_) | (refine WC.ret ?_) | (refine WC.block ?_) | (refine WO.em2 rfl (by intro hp; simp only [hp, decide_true]; rfl) (by intro hp; simp only [hp, decide_false]; rfl) (fun hp => ?_) (fun hp => ?_) <;> try (exfalso; first | omega | contradiction)) | (refine WC.em2 rfl (fun hp => ?_) (fun hp => ?_) <;> try (exfalso; first | omega | contradiction)))
    all_goals first
      | exact ⟨_, rfl, rfl⟩
      | exact absurd ⟨Decidable.of_not_not ‹_›, Decidable.of_not_not ‹_›⟩ hok2
theorem s58 {a b : V6} {m : Mem} : borrowE C11 58 [.agg a.cells, .agg b.cells] m = some (gapV a b, m) := borrowE_of rfl (f58.mono fun y m' h => by rw [h]; exact gapV_res a b _)

noncomputable def C12 : Env := C11.put 58 (borrowE C11 58)
theorem C12_ok : EnvOk Tryd.prog C12 := Env.put_ok C11_ok (borrowE_ok C11_ok (callable Tryd.func58 (by kernel_rfl)))
/-- The reference's Near. -/
theorem f79 {a b : V6} {bound : Int} (ha : a.ok 576) (hb : b.ok 576) (h0 : 0 ≤ bound) (h1 : bound ≤ 2400000) : WF C12 (.func 79 [] []) [.agg a.cells, .agg b.cells, .int .i64 bound] ⟨[], []⟩ fun y m' => y = .tuple [.int .i64 (sur (gLo a b) (gHi a b) (-10000 * bound) (10000 * bound)), .int .i64 0] := by
  have e : gapV a b = .tuple [.agg [.int .i64 (gLo a b), .int .i64 (gHi a b)], .int .i64 0] := if_pos ⟨ha, hb⟩
  have h58 := fun m => s58 (a := a) (b := b) (m := m)
  rw [e] at h58
  obtain ⟨a0, a1, a2, a3, a4, a5⟩ := a
  obtain ⟨b0, b1, b2, b3, b4, b5⟩ := b
  refine WF.fnE rfl (fn_of Tryd.func79 cir79) (by show 3 ≤ 32; decide) ?_
  unfold ir79
  simp only [padTo, List.replicate, List.nil_append, List.append_nil, List.cons_append]
  repeat' (first | (refine WO.yes rfl ?_) | (refine WO.opE (by intro; simp (disch := omega) only [go_sem, zeros, Zz.look, Zz.cut, List.append_assoc, List.length_append, ov_one0, ov_one1, ov_one2, ov_one3, ov_one4, ov_one5, ov_all2, ov_all6, Nat.reduceAdd, Nat.reduceMul, Nat.reduceSub, Nat.reduceLeDiff, Nat.reduceEqDiff, Int.reduceNeg, Int.reduceAdd, Int.reduceToNat, reduceIte, reduceCtorEq, V6.cells]; rfl) (by simp only [pt8, pt0, pt1, pt2, pt3, pt4, pt5, pt6, pt7]; rfl) ?_) | (refine WO.opN (by intro; simp (disch := omega) only [go_sem, zeros, Zz.look, Zz.cut, List.append_assoc, List.length_append, ov_one0, ov_one1, ov_one2, ov_one3, ov_one4, ov_one5, ov_all2, ov_all6, Nat.reduceAdd, Nat.reduceMul, Nat.reduceSub, Nat.reduceLeDiff, Nat.reduceEqDiff, Int.reduceNeg, Int.reduceAdd, Int.reduceToNat, reduceIte, reduceCtorEq, V6.cells]; rfl) ?_) | (refine WO.specE rfl rfl (h58 _) (by simp only [pt8, pt0, pt1, pt2, pt3, pt4, pt5, pt6, pt7]; rfl) ?_) | (refine WO.specE rfl rfl (s60) (by simp only [pt8, pt0, pt1, pt2, pt3, pt4, pt5, pt6, pt7]; rfl) ?_) | (refine WC.seq ?_) | (refine WC.region ?_) | (refine WO.nil ?_) | (simp only [fl1, fl2, fl3, fl4, fl5, fl6, fl7, fl8, fl9, fl10, Nat.reduceBEq]) | (refine WC.skip ?_) | (refine WC.ret ?_) | (refine WO.em2 rfl (by intro hp; simp only [hp, decide_true]; rfl) (by intro hp; simp only [hp, decide_false]; rfl) (fun hp => ?_) (fun hp => ?_) <;> try (exfalso; first | omega | contradiction)) | (refine WC.em2 rfl (fun hp => ?_) (fun hp => ?_) <;> try (exfalso; first | omega | contradiction)))
  exact ⟨_, rfl, rfl⟩
theorem s79 {a b : V6} {bound : Int} (ha : a.ok 576) (hb : b.ok 576) (h0 : 0 ≤ bound) (h1 : bound ≤ 2400000) {m : Mem} : borrowE C12 79 [.agg a.cells, .agg b.cells, .int .i64 bound] m = some (.tuple [.int .i64 (sur (gLo a b) (gHi a b) (-10000 * bound) (10000 * bound)), .int .i64 0], m) := borrowE_of rfl ((f79 ha hb h0 h1).mono fun y m' h => by rw [h]; rfl)

noncomputable def C13 : Env := C12.put 79 (borrowE C12 79)
theorem C13_ok : EnvOk Tryd.prog C13 := Env.put_ok C12_ok (borrowE_ok C12_ok (callable Tryd.func79 (by kernel_rfl)))
theorem s57v {v : V6} (hv : v.ok 48) {m : Mem} : borrowE C7 57 [.agg v.cells] m = some (.tuple [.agg v.of.cells, .int .i64 0], m) := s57 hv
/-- The reference's has. -/
theorem f55 {pv : AV} {sup tol : Int} {p : Pipe} {v : V6} (hp : p.p.ok 576) (hv : v.ok 48) (h0 : 0 ≤ tol) (h1 : tol ≤ 50000) (hcell : Zz.pureC pv = true) : WF C13 (.func 55 [] []) [.agg [pv, .int .i64 sup, .int .i64 tol], .agg p.cells, .agg v.cells] ⟨[], []⟩ fun y m' => y = .bool (decide (hasP p v tol)) := by
  have h57 := fun m => s57v hv (m := m)
  have h79 := fun m => s79 (m := m) hp (of_ok hv) h0 (Int.le_trans h1 (by decide))
  refine WF.fnE rfl (fn_of Tryd.func55 cir55) (by show 3 ≤ 27; decide) ?_
  unfold ir55
  simp only [padTo, List.replicate, List.nil_append, List.append_nil, List.cons_append]
  repeat' (first | (refine WO.opE (by intro; simp (disch := omega) only [go_sem, zeros, Zz.look, Zz.cut, List.append_assoc, List.length_append, ov_one0, ov_one1, ov_one2, ov_one3, ov_one4, ov_one5, ov_all2, ov_all6, Nat.reduceAdd, Nat.reduceMul, Nat.reduceSub, Nat.reduceLeDiff, Nat.reduceEqDiff, Int.reduceNeg, Int.reduceAdd, Int.reduceToNat, reduceIte, reduceCtorEq, Pipe.cells, V6.cells]; rfl) (by simp only [pt8, pt0, pt1, pt2, pt3, pt4, pt5, pt6, pt7]; rfl) ?_) | (refine WO.opN (by intro; simp (disch := omega) only [go_sem, zeros, Zz.look, Zz.cut, List.append_assoc, List.length_append, ov_one0, ov_one1, ov_one2, ov_one3, ov_one4, ov_one5, ov_all2, ov_all6, Nat.reduceAdd, Nat.reduceMul, Nat.reduceSub, Nat.reduceLeDiff, Nat.reduceEqDiff, Int.reduceNeg, Int.reduceAdd, Int.reduceToNat, reduceIte, reduceCtorEq, Pipe.cells, V6.cells]; rfl) ?_) | (refine WO.specE rfl rfl (h57 _) (by simp only [pt8, pt0, pt1, pt2, pt3, pt4, pt5, pt6, pt7]; rfl) ?_) | (refine WO.specE rfl rfl (h79 _) (by simp only [pt8, pt0, pt1, pt2, pt3, pt4, pt5, pt6, pt7]; rfl) ?_) | (refine WC.seq ?_) | (refine WC.region ?_) | (refine WO.nil ?_) | (simp only [fl1, fl2, fl3, fl4, fl5, fl6, fl7, fl8, fl9, fl10, Nat.reduceBEq]) | (refine WC.ret ?_))
  refine ⟨_, rfl, ?_⟩
  simp only [oneRes, gt8, gt0, gt1, gt2, gt3, gt4, gt5, gt6, gt7, AV.bool.injEq]
  rw [decide_eq_decide]
  exact sur_one
theorem s55 {pv : AV} {ps : List Pipe} {sup tol : Int} {p : Pipe} {v : V6} (hq : PpL pv ps) (hp : p.p.ok 576) (hv : v.ok 48) (h0 : 0 ≤ tol) (h1 : tol ≤ 50000) {m : Mem} : borrowE C13 55 [.agg [pv, .int .i64 sup, .int .i64 tol], .agg p.cells, .agg v.cells] m = some (.bool (decide (hasP p v tol)), m) :=
  borrowE_of (pures_cons (pure3 hq.pureC) (pures_cons rfl (pures_cons rfl rfl))) ((f55 hp hv h0 h1 hq.pureC).mono fun y m' h => by rw [h]; rfl)

noncomputable def C14 : Env := C13.put 55 (borrowE C13 55)
theorem C14_ok : EnvOk Tryd.prog C14 := Env.put_ok C13_ok (borrowE_ok C13_ok (callable Tryd.func55 (by kernel_rfl)))
end Go.Proofs.YtjbdefmhjmkifaaDoor

