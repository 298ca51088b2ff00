import Derived.Test.YtjbdefmhjmkifaaDoorIr11xc9
import Derived.Test.YtjbdefmhjmkifaaDoorL11pa
set_option linter.unusedSimpArgs false
set_option linter.unusedVariables false
namespace Go.Proofs.YtjbdefmhjmkifaaDoor
open Go.Zz
set_option maxRecDepth 100000
set_option maxHeartbeats 4000000
theorem sub_stead {ps : List Pipe} {sup tol : Int} {k l : Nat} (hk : k < 65536) (hv : VO ps sup tol) (h : Stead ps tol (pickL ps k (min ps.length 16)) (lacks ps sup (pickL ps k (min ps.length 16))) 0) :
    Stead ps tol (pickL ps ((k &&& l : Nat) : Int) (min ps.length 16)) (lacks ps sup (pickL ps ((k &&& l : Nat) : Int) (min ps.length 16))) 0 := by
  rw [stead_iff] at h ⊢
  have hd := dem_pick (k := (k : Int)) (k' := ((k &&& l : Nat) : Int)) hv (min ps.length 16) fun i hi hb => bit_and hk (by omega) hb
  intro x hx hp
  obtain ⟨i, h1, h2, rfl⟩ := pickL_mem hx
  have h3 := h _ (pickL_of h1 (bit_and hk (by omega) h2)) hp
  have hat := hv.at (nth ps i).id
  unfold shiftOf at h3 ⊢
  have hl : lacks ps sup (pickL ps ((k &&& l : Nat) : Int) (min ps.length 16)) ≤ lacks ps sup (pickL ps k (min ps.length 16)) := by unfold lacks; omega
  have h0 : 0 ≤ lacks ps sup (pickL ps ((k &&& l : Nat) : Int) (min ps.length 16)) := by unfold lacks; omega
  have m1 := Int.mul_le_mul_of_nonneg_left hl hat.2.2.1
  have m2 := Int.mul_nonneg hat.2.2.1 h0
  have t := hv.2.2.2.1
  rw [Int.mul_zero] at h3 ⊢
  omega
theorem run9 {pv : AV} {ps : List Pipe} {sup tol : Int} {k l : Nat} (hq : PpL pv ps) (hmax : ps.length < 9223372036854775807) (hk : k < 65536) (hl : l < 65536) : WF E38 (.func 9 [] []) [.agg [pv, .int .i64 sup, .int .i64 tol], .int .u16 (k : Int), .int .u16 (l : Int)] ⟨[], []⟩ fun y m' => y = .bool true := by
  have hpc := SL.cells hq
  have hpc2 := hpc
  unfold AV.cells at hpc2
  obtain ⟨xa, ha, ca⟩ := s12 (sup := sup) (tol := tol) (k := (k : Int)) hq hmax
  obtain ⟨xb, hb, cb⟩ := s12 (sup := sup) (tol := tol) (k := ((k &&& l : Nat) : Int)) hq hmax
  have hal : (pickL ps k (min ps.length 16)).length < 9223372036854775807 := Nat.lt_of_le_of_lt (pickL_len _) (by omega)
  have hbl : (pickL ps ((k &&& l : Nat) : Int) (min ps.length 16)).length < 9223372036854775807 := Nat.lt_of_le_of_lt (pickL_len _) (by omega)
  have d1 := fun m => s20 (sup := sup) (tol := tol) (warm := 0) (m := m) hq hmax ha hal (ha.byVal _)
  have d2 := fun m => s20 (sup := sup) (tol := tol) (warm := 0) (m := m) hq hmax hb hbl (hb.byVal _)
  rw [pick_setE] at d1 d2
  obtain ⟨b1, b2, e, hbb, d1, d2⟩ : ∃ b1 b2 : Bool, ∃ e, (b1 = true → b2 = true) ∧ (∀ m, borrowX E15 20 [.agg [pv, .int .i64 sup, .int .i64 tol], xa, .int .i64 0] m = some (.tuple [.bool b1, .int .i64 e], m)) ∧ ∀ m, borrowX E15 20 [.agg [pv, .int .i64 sup, .int .i64 tol], xb, .int .i64 0] m = some (.tuple [.bool b2, .int .i64 e], m) := by
    refine ⟨_, _, _, fun h => ?_, d1, d2⟩
    rw [decide_eq_true_iff] at h ⊢
    refine ⟨h.1, sub_stead hk ?_ h.2⟩
    have h1 := h.1
    split at h1
    · rename_i g; exact g.1
    · cases h1
  rw [← and_wrap hk hl] at cb
  refine WF.fnE rfl (fn_of Tryd.func9 cir9) (by show 3 ≤ 44; decide) ?_
  unfold ir9
  simp only [padTo, List.replicate, List.nil_append, List.append_nil, List.cons_append]
  cases b1 <;> cases b2 <;> try (exact absurd (hbb rfl) (by decide))
  repeat' (first | (refine WO.yes rfl ?_) | (refine WO.noE rfl (by simp only [pt8, pt0, pt1, pt2, pt3, pt4, pt5, pt6, pt7]; rfl) ?_) | (refine WO.opE (by intro; simp (disch := omega) only [go_sem, zeros, Zz.look, Zz.over, Zz.cut, List.append_assoc, List.length_append, Nat.reduceAdd, Nat.reduceMul, Nat.reduceSub, Nat.reduceLeDiff, Nat.reduceEqDiff, Int.reduceNeg, Int.reduceAdd, Int.reduceToNat, reduceIte, reduceCtorEq, hpc2, List.map_cons, List.map_nil]; rfl) (by simp only [pt8, pt0, pt1, pt2, pt3, pt4, pt5, pt6, pt7]; rfl) ?_) | (refine WO.opN (by intro; simp (disch := omega) only [go_sem, zeros, Zz.look, Zz.over, Zz.cut, List.append_assoc, List.length_append, Nat.reduceAdd, Nat.reduceMul, Nat.reduceSub, Nat.reduceLeDiff, Nat.reduceEqDiff, Int.reduceNeg, Int.reduceAdd, Int.reduceToNat, reduceIte, reduceCtorEq, hpc2, List.map_cons, List.map_nil]; rfl) ?_) | (refine WO.opE (by intro; exact ev_lenS (by simp only [go_sem]; first | rfl | assumption)) (by simp only [pt8, pt0, pt1, pt2, pt3, pt4, pt5, pt6, pt7]; rfl) ?_) | (refine WO.specE rfl rfl (s11) (by simp only [pt8, pt0, pt1, pt2, pt3, pt4, pt5, pt6, pt7]; rfl) ?_) | (refine WO.specE rfl rfl (ca _) (by simp only [pt8, pt0, pt1, pt2, pt3, pt4, pt5, pt6, pt7]; rfl) ?_) | (refine WO.specE rfl rfl (cb _) (by simp only [pt8, pt0, pt1, pt2, pt3, pt4, pt5, pt6, pt7]; rfl) ?_) | (refine WO.specE rfl rfl (d1 _) (by simp only [pt8, pt0, pt1, pt2, pt3, pt4, pt5, pt6, pt7]; rfl) ?_) | (refine WO.specE rfl rfl (d2 _) (by simp only [pt8, pt0, pt1, pt2, pt3, pt4, pt5, pt6, pt7]; rfl) ?_) | (refine WT.spec rfl rfl (fun V => ca _) (by simp only [pt8, pt0, pt1, pt2, pt3, pt4, pt5, pt6, pt7]; rfl) ?_) | (refine WT.spec rfl rfl (fun V => cb _) (by simp only [pt8, pt0, pt1, pt2, pt3, pt4, pt5, pt6, pt7]; rfl) ?_) | (refine WT.spec rfl rfl (fun V => d1 _) (by simp only [pt8, pt0, pt1, pt2, pt3, pt4, pt5, pt6, pt7]; rfl) ?_) | (refine WT.spec rfl rfl (fun V => d2 _) (by simp only [pt8, pt0, pt1, pt2, pt3, pt4, pt5, pt6, pt7]; rfl) ?_) | (refine WC.seq ?_) | (refine WC.region ?_) | (refine WO.nil ?_) | (simp only [fl1, fl2, fl3, fl4, fl5, fl6, fl7, fl8, fl9, fl10, Nat.reduceBEq]) | (refine WC.calm rfl ?_) | (refine WC.drawT ?_) | (refine WT.nil ?_) | (refine WT.yes rfl ?_) | (refine WT.no rfl (by simp only [pt8, pt0, pt1, pt2, pt3, pt4, pt5, pt6, pt7]; rfl) ?_) | (refine WT.free rfl (by intro; simp (disch := omega) only [go_sem, zeros, Zz.look, Zz.over, Zz.cut, List.append_assoc, List.length_append, Nat.reduceAdd, Nat.reduceMul, Nat.reduceSub, Nat.reduceLeDiff, Nat.reduceEqDiff, Int.reduceNeg, Int.reduceAdd, Int.reduceToNat, reduceIte, reduceCtorEq, hpc2, List.map_cons, List.map_nil]; rfl) rfl (by simp only [pt8, pt0, pt1, pt2, pt3, pt4, pt5, pt6, pt7]; rfl) ?_) | (refine WT.big rfl rfl (by intro; simp (disch := omega) only [go_sem, zeros, Zz.look, Zz.over, Zz.cut, List.append_assoc, List.length_append, Nat.reduceAdd, Nat.reduceMul, Nat.reduceSub, Nat.reduceLeDiff, Nat.reduceEqDiff, Int.reduceNeg, Int.reduceAdd, Int.reduceToNat, reduceIte, reduceCtorEq, hpc2, List.map_cons, List.map_nil]; rfl) (by simp (disch := omega) only [go_sem, zeros, Zz.look, Zz.over, Zz.cut, List.append_assoc, List.length_append, Nat.reduceAdd, Nat.reduceMul, Nat.reduceSub, Nat.reduceLeDiff, Nat.reduceEqDiff, Int.reduceNeg, Int.reduceAdd, Int.reduceToNat, reduceIte, reduceCtorEq, hpc2, List.map_cons, List.map_nil, touch]; rfl) (by first | exact .inl rfl | exact .inr (apart_nil _) | (right; apply apart_mk; simp only [apartL, List.nil_append, List.cons_append, List.getElem?_cons_succ, List.getElem?_cons_zero, Tch.free, and_true, true_and]; first | done | omega)) (by simp only [pt8, pt0, pt1, pt2, pt3, pt4, pt5, pt6, pt7]; rfl) ?_) | (refine WT.bigN rfl rfl (by intro; simp (disch := omega) only [go_sem, zeros, Zz.look, Zz.over, Zz.cut, List.append_assoc, List.length_append, Nat.reduceAdd, Nat.reduceMul, Nat.reduceSub, Nat.reduceLeDiff, Nat.reduceEqDiff, Int.reduceNeg, Int.reduceAdd, Int.reduceToNat, reduceIte, reduceCtorEq, hpc2, List.map_cons, List.map_nil]; rfl) (by simp (disch := omega) only [go_sem, zeros, Zz.look, Zz.over, Zz.cut, List.append_assoc, List.length_append, Nat.reduceAdd, Nat.reduceMul, Nat.reduceSub, Nat.reduceLeDiff, Nat.reduceEqDiff, Int.reduceNeg, Int.reduceAdd, Int.reduceToNat, reduceIte, reduceCtorEq, hpc2, List.map_cons, List.map_nil, touch]; rfl) (by first | exact .inl rfl | exact .inr (apart_nil _) | (right; apply apart_mk; simp only [apartL, List.nil_append, List.cons_append, List.getElem?_cons_succ, List.getElem?_cons_zero, Tch.free, and_true, true_and]; first | done | omega)) ?_) | (refine WC.yes rfl ?_) | (refine WC.no rfl ?_) | (refine WC.skip ?_) | (refine WC.exit ?_) | (refine WC.ret ?_) | (refine WC.block ?_) | (refine WT.em2 rfl (by intro hp; simp only [hp, decide_true]; rfl) (by intro hp; simp only [hp, decide_false]; rfl) (fun hp => ?_) (fun hp => ?_) <;> try (exfalso; first | omega | contradiction)) | (refine WO.em2 rfl (by intro hp; simp only [hp, decide_true]; rfl) (by intro hp; simp only [hp, decide_false]; rfl) (fun hp => ?_) (fun hp => ?_) <;> try (exfalso; first | omega | contradiction)) | (refine WC.em2 rfl (fun hp => ?_) (fun hp => ?_) <;> try (exfalso; first | omega | contradiction)))
  all_goals exact ⟨_, rfl, rfl⟩
end Go.Proofs.YtjbdefmhjmkifaaDoor

