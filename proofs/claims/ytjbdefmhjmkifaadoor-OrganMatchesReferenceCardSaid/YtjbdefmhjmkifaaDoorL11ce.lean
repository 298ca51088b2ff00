import Derived.Test.YtjbdefmhjmkifaaDoorIr11xc10
import Derived.Test.YtjbdefmhjmkifaaDoorL11cd

set_option linter.unusedSimpArgs false
set_option linter.unusedVariables false
namespace Go.Proofs.YtjbdefmhjmkifaaDoor
open Go.Zz
set_option maxRecDepth 100000
set_option maxHeartbeats 4000000
theorem s61 {a b c d e f : Int} {m : Mem} : borrowE E38 61 [.agg [.int .i64 a, .int .i64 b, .int .i64 c, .int .i64 d, .int .i64 e, .int .i64 f]] m = some (.bool (decide (wi6 a b c d e f 576)), m) := borrowE_of rfl (f61.mono fun y m' h => by rw [h]; rfl)

noncomputable def C6 : Env := C5.put 61 (borrowE E38 61)
theorem C6_ok : EnvOk Tryd.prog C6 := Env.put_ok C5_ok (borrowE_ok E38_ok (callable Tryd.func61 (by kernel_rfl)))
theorem s69 {a b c d e f : Int} {m : Mem} : borrowE E38 69 [.agg [.int .i64 a, .int .i64 b, .int .i64 c, .int .i64 d, .int .i64 e, .int .i64 f]] m = some (.bool (decide (wi6 a b c d e f 48)), m) := borrowE_of rfl (f69.mono fun y m' h => by rw [h]; rfl)

noncomputable def C7 : Env := C6.put 69 (borrowE E38 69)
theorem C7_ok : EnvOk Tryd.prog C7 := Env.put_ok C6_ok (borrowE_ok E38_ok (callable Tryd.func69 (by kernel_rfl)))
theorem f57 {a b c d e f : Int} (h : wi6 a b c d e f 48) : WF C7 (.func 57 [] []) [.agg [.int .i64 a, .int .i64 b, .int .i64 c, .int .i64 d, .int .i64 e, .int .i64 f]] ⟨[], []⟩ fun y m' => y = .tuple [.agg [.int .i64 (a * 12), .int .i64 (b * 12), .int .i64 (c * 12), .int .i64 (d * 12), .int .i64 (e * 12), .int .i64 (f * 12)], .int .i64 0] := by
  have hw := h
  unfold wi6 at hw
  obtain ⟨w1, w2, w3, w4, w5, w6, w7, w8, w9, w10, w11, w12⟩ := hw
  have h69 := fun m => s69 (a := a) (b := b) (c := c) (d := d) (e := e) (f := f) (m := m)
  rw [decide_eq_true h] at h69
  refine WF.fnE rfl (fn_of Tryd.func57 cir57) (by show 1 ≤ 23; decide) ?_
  unfold ir57
  simp only [padTo, List.replicate, List.nil_append, List.append_nil, List.cons_append]
  repeat' (first | (refine WO.opE (by intro; simp (disch := omega) only [go_sem, zeros, Zz.look, Zz.over, Zz.cut, List.append_assoc, List.length_append, Nat.reduceAdd, Nat.reduceMul, Nat.reduceSub, Nat.reduceLeDiff, Nat.reduceEqDiff, Int.reduceNeg, Int.reduceAdd, Int.reduceToNat, reduceIte, reduceCtorEq, Int.zero_sub, idx, ov_all6, cut6]; rfl) (by simp only [pt8, pt0, pt1, pt2, pt3, pt4, pt5, pt6, pt7]; rfl) ?_) | (refine WO.opN (by intro; simp (disch := omega) only [go_sem, zeros, Zz.look, Zz.over, Zz.cut, List.append_assoc, List.length_append, Nat.reduceAdd, Nat.reduceMul, Nat.reduceSub, Nat.reduceLeDiff, Nat.reduceEqDiff, Int.reduceNeg, Int.reduceAdd, Int.reduceToNat, reduceIte, reduceCtorEq, Int.zero_sub, idx, ov_all6, cut6]; rfl) ?_) | (refine WC.loop ?_) | (refine WO.specE rfl rfl (h69 _) (by simp only [pt8, pt0, pt1, pt2, pt3, pt4, pt5, pt6, pt7]; rfl) ?_) | (refine WC.seq ?_) | (refine WC.region ?_) | (refine WO.nil ?_) | (simp only [fl1, fl2, fl3, fl4, fl5, fl6, fl7, fl8, fl9, fl10, Nat.reduceBEq]) | (refine WC.yes rfl ?_) | (refine WC.no rfl ?_) | (refine WC.skip ?_) | (refine WC.exit ?_) | (refine WC.ret ?_) | (refine WC.block ?_))
  all_goals exact ⟨_, rfl, rfl⟩
end Go.Proofs.YtjbdefmhjmkifaaDoor

