import Derived.Test.YtjbdefmhjmkifaaDoorAbsI
import Derived.Test.YtjbdefmhjmkifaaDoorEx
import Derived.Test.YtjbdefmhjmkifaaDoorIr11

set_option linter.unusedSimpArgs false
set_option linter.unusedVariables false
namespace Go.Proofs.YtjbdefmhjmkifaaDoor
open Go.Zz

/-- The functions' texts. -/
noncomputable def G0 : Env := { fn := fun g => (Tryd.prog.funcs[g]?).bind (cFunc Tryd.prog), spec := fun _ => none }
theorem G0_ok : EnvOk Tryd.prog G0 := by
  refine ⟨fun g ifn h => ?_, fun g S h => by cases h⟩
  simp only [G0, Option.bind_eq_some_iff] at h
  exact h
theorem fn_of {g : Nat} {f : Func} {i : IFunc} (hf : Tryd.prog.funcs[g]? = some f) (hc : cFunc Tryd.prog f = some i) : G0.fn g = some i := by
  simp only [G0, hf, Option.bind_some, hc]
theorem callable {g : Nat} {f : Func} (hf : Tryd.prog.funcs[g]? = some f) (h : (f.name != "runtime.NumGoroutine" && f.body.isSome) = true) : Callable Tryd.prog g := by
  simp only [Bool.and_eq_true, bne_iff_ne, ne_eq] at h
  exact ⟨f, hf, h.1, h.2⟩

/-- A pipe. -/
structure Pipe where
  id : Int
  p0 : Int
  p1 : Int
  p2 : Int
  p3 : Int
  p4 : Int
  p5 : Int
  wind : Int
  sag : Int
  warm : Int
  deriving Inhabited, DecidableEq
def Pipe.cells (p : Pipe) : List AV := [.int .i64 p.id, .int .i64 p.p0, .int .i64 p.p1, .int .i64 p.p2, .int .i64 p.p3, .int .i64 p.p4, .int .i64 p.p5, .int .i64 p.wind, .int .i64 p.sag, .int .i64 p.warm]
def PpL (x : AV) (ps : List Pipe) : Prop := SL 10 x (ps.map Pipe.cells)
def tail10 (ps : List Pipe) (i : Nat) : List AV := ((ps.map Pipe.cells).drop (i + 1)).flatten
theorem PpL.len {x : AV} {ps : List Pipe} (h : PpL x ps) : slen x = some ps.length := by
  have := SL.len h
  rwa [List.length_map] at this
def nth (ps : List Pipe) (i : Nat) : Pipe := ps.getD i default
theorem nth_lt {ps : List Pipe} {i : Nat} (h : i < ps.length) : nth ps i = ps[i] := by simp [nth, h]
theorem PpL.at {x : AV} {ps : List Pipe} (h : PpL x ps) {i : Int} (h0 : 0 ≤ i) (hi : i < ps.length) : indexAddrAV 10 x (.int .i64 i) = some (.pval (.int .i64 (nth ps i.toNat).id :: .int .i64 (nth ps i.toNat).p0 :: .int .i64 (nth ps i.toNat).p1 :: .int .i64 (nth ps i.toNat).p2 :: .int .i64 (nth ps i.toNat).p3 :: .int .i64 (nth ps i.toNat).p4 :: .int .i64 (nth ps i.toNat).p5 :: .int .i64 (nth ps i.toNat).wind :: .int .i64 (nth ps i.toNat).sag :: .int .i64 (nth ps i.toNat).warm :: tail10 ps i.toNat)) := by
  have hi' : i.toNat < ps.length := by omega
  have := SL.at h (i := i.toNat) (by simpa using hi')
  have e : i = (i.toNat : Int) := by omega
  rw [nth_lt hi']
  conv => lhs; rw [e]
  simpa [Pipe.cells, tail10] using this
theorem cut10 {x0 x1 x2 x3 x4 x5 x6 x7 x8 x9 : AV} {l : List AV} : cut (x0 :: x1 :: x2 :: x3 :: x4 :: x5 :: x6 :: x7 :: x8 :: x9 :: l) 0 10 = some [x0, x1, x2, x3, x4, x5, x6, x7, x8, x9] := by simp [cut]
theorem over10 {y0 y1 y2 y3 y4 y5 y6 y7 y8 y9 x0 x1 x2 x3 x4 x5 x6 x7 x8 x9 : AV} : over [y0, y1, y2, y3, y4, y5, y6, y7, y8, y9] 0 [x0, x1, x2, x3, x4, x5, x6, x7, x8, x9] = some [x0, x1, x2, x3, x4, x5, x6, x7, x8, x9] := by simp [over]
theorem PpL.byVal {x : AV} {ps : List Pipe} (h : PpL x ps) (H : Hp) : Zz.byVal H x = some x := SL.byVal h (fun c hc => by
  obtain ⟨r, _, rfl⟩ := List.mem_map.1 hc
  rfl) H
theorem PpL.pureC {x : AV} {ps : List Pipe} (h : PpL x ps) : Zz.pureC x = true := by
  have := h.byVal []
  obtain ⟨_, ⟨rfl, _⟩ | ⟨f, rfl⟩⟩ := h
  · rfl
  · simp only [Zz.byVal, Zz.byC] at this
    split at this
    · assumption
    · cases this
theorem PpL.pureA {x : AV} {ps : List Pipe} (h : PpL x ps) : Zz.pureA x = true := by
  have := h.pureC
  obtain ⟨_, ⟨rfl, _⟩ | ⟨f, rfl⟩⟩ := h <;> exact this

/-! ### Small functions -/

def wi6 (a b c d e f m : Int) : Prop := -m ≤ a ∧ a ≤ m ∧ -m ≤ b ∧ b ≤ m ∧ -m ≤ c ∧ c ≤ m ∧ -m ≤ d ∧ d ≤ m ∧ -m ≤ e ∧ e ≤ m ∧ -m ≤ f ∧ f ≤ m
instance (a b c d e f m : Int) : Decidable (wi6 a b c d e f m) := by unfold wi6; infer_instance

theorem f41 {n lo hi : Int} : WF G0 (.func 41 [] []) [.int .i64 n, .int .i64 lo, .int .i64 hi] ⟨[], []⟩ fun y m' => y = .bool (decide (lo ≤ n ∧ n ≤ hi)) := by
  refine WF.fnE rfl (fn_of Tryd.func41 cir41) (by show 3 ≤ 15; decide) ?_
  unfold ir41
  simp only [padTo, List.replicate, List.nil_append, List.append_nil, List.cons_append]
  repeat' (first | (refine WO.yes rfl ?_) | (refine WO.noE rfl (by simp only [pt8, pt0, pt1, pt2, pt3, pt4, pt5, pt6, pt7]; rfl) ?_) | (refine WO.opE (by intro; simp (disch := omega) only [go_sem, Zz.look, Zz.over, Zz.cut, Nat.reduceAdd, Nat.reduceMul, Nat.reduceSub, Nat.reduceLeDiff, Nat.reduceEqDiff, Int.reduceNeg, Int.reduceAdd, Int.reduceToNat, reduceIte, reduceCtorEq]; rfl) (by simp only [pt8, pt0, pt1, pt2, pt3, pt4, pt5, pt6, pt7]; rfl) ?_) | (refine WC.seq ?_) | (refine WC.region ?_) | (refine WO.nil ?_) | (simp only [fl1, fl2, fl3, fl4, fl5, fl6, fl7, fl8, fl9, fl10, Nat.reduceBEq]) | (refine WC.ret ?_) | (refine WO.em2 rfl (by intro hp; simp only [hp, decide_true]; rfl) (by intro hp; simp only [hp, decide_false]; rfl) (fun hp => ?_) (fun hp => ?_) <;> try (exfalso; first | omega | contradiction)))
  all_goals refine ⟨_, rfl, ?_⟩
  all_goals simp only [oneRes, St.mem, AV.bool.injEq, gt8, gt0, gt1, gt2, gt3, gt4, gt5, gt6, gt7]
  all_goals first
    | rfl
    | (symm; rw [decide_eq_true_iff]; omega)
    | (symm; rw [decide_eq_false_iff_not]; omega)
    | (rw [decide_eq_decide]; omega)
theorem s41 {n lo hi : Int} {m : Mem} : borrowE G0 41 [.int .i64 n, .int .i64 lo, .int .i64 hi] m = some (.bool (decide (lo ≤ n ∧ n ≤ hi)), m) := borrowE_of rfl (f41.mono fun y m' h => by rw [h]; rfl)

noncomputable def E1 : Env := G0.put 41 (borrowE G0 41)
theorem E1_ok : EnvOk Tryd.prog E1 := Env.put_ok G0_ok (borrowE_ok G0_ok (callable Tryd.func41 (by kernel_rfl)))

set_option maxRecDepth 100000 in
set_option maxHeartbeats 1000000 in
theorem f71 {a b c d e f k : Int} (h0 : 0 ≤ k) (h1 : k ≤ 1000000) : WF E1 (.func 71 [] []) [.agg [.int .i64 a, .int .i64 b, .int .i64 c, .int .i64 d, .int .i64 e, .int .i64 f], .int .i64 k] ⟨[], []⟩ fun y m' => y = .bool (decide (wi6 a b c d e f k)) := by
  refine WF.fnE rfl (fn_of Tryd.func71 cir71) (by show 2 ≤ 21; decide) ?_
  unfold ir71
  simp only [padTo, List.replicate, List.nil_append, List.append_nil, List.cons_append]
  repeat' (first | (refine WO.yes rfl ?_) | (refine WO.noE rfl (by simp only [pt8, pt0, pt1, pt2, pt3, pt4, pt5, pt6, pt7]; rfl) ?_) | (refine WO.opE (by intro; simp (disch := omega) only [go_sem, Zz.look, Zz.over, Zz.cut, Nat.reduceAdd, Nat.reduceMul, Nat.reduceSub, Nat.reduceLeDiff, Nat.reduceEqDiff, Int.reduceNeg, Int.reduceAdd, Int.reduceToNat, reduceIte, reduceCtorEq, Int.zero_sub, idx]; rfl) (by simp only [pt8, pt0, pt1, pt2, pt3, pt4, pt5, pt6, pt7]; rfl) ?_) | (refine WC.loop ?_) | (refine WC.seq ?_) | (refine WC.region ?_) | (refine WO.nil ?_) | (simp only [fl1, fl2, fl3, fl4, fl5, fl6, fl7, fl8, fl9, fl10, Nat.reduceBEq]) | (refine WC.yes rfl ?_) | (refine WC.no rfl ?_) | (refine WC.skip ?_) | (refine WC.exit ?_) | (refine WC.ret ?_) | (refine WC.block ?_) | (refine WO.em2 rfl (by intro hp; simp only [hp, decide_true]; rfl) (by intro hp; simp only [hp, decide_false]; rfl) (fun hp => ?_) (fun hp => ?_) <;> try (exfalso; first | omega | contradiction)) | (refine WC.em2 rfl (fun hp => ?_) (fun hp => ?_) <;> try (exfalso; first | omega | contradiction)))
  all_goals refine ⟨_, rfl, ?_⟩
  all_goals simp only [oneRes, St.mem, AV.bool.injEq, gt8, gt0, gt1, gt2, gt3, gt4, gt5, gt6, gt7]
  all_goals first
    | (symm; rw [decide_eq_true_iff]; unfold wi6; omega)
    | (symm; rw [decide_eq_false_iff_not]; unfold wi6; omega)
end Go.Proofs.YtjbdefmhjmkifaaDoor


set_option linter.unusedSimpArgs false
set_option linter.unusedVariables false
namespace Go.Proofs.YtjbdefmhjmkifaaDoor
open Go.Zz
set_option maxRecDepth 100000
set_option maxHeartbeats 1000000
theorem s71 {a b c d e f k : Int} (h0 : 0 ≤ k) (h1 : k ≤ 1000000) {m : Mem} : borrowE E1 71 [.agg [.int .i64 a, .int .i64 b, .int .i64 c, .int .i64 d, .int .i64 e, .int .i64 f], .int .i64 k] m = some (.bool (decide (wi6 a b c d e f k)), m) := borrowE_of rfl ((f71 h0 h1).mono fun y m' h => by rw [h]; rfl)

noncomputable def E2 : Env := E1.put 71 (borrowE E1 71)
theorem E2_ok : EnvOk Tryd.prog E2 := Env.put_ok E1_ok (borrowE_ok E1_ok (callable Tryd.func71 (by kernel_rfl)))
/-- pitch.Valid, pitch.Interval, warmth. -/
theorem f40 {a b c d e f : Int} : WF E2 (.func 40 [] []) [.agg [.int .i64 a, .int .i64 b, .int .i64 c, .int .i64 d, .int .i64 e, .int .i64 f]] ⟨[], []⟩ fun y m' => y = .bool (decide (wi6 a b c d e f 576)) := by
  refine WF.fnE rfl (fn_of Tryd.func40 cir40) (by show 1 ≤ 5; decide) ?_
  unfold ir40
  simp only [padTo, List.replicate, List.nil_append, List.append_nil, List.cons_append]
  repeat' (first | (refine WO.opE (by intro; simp (disch := omega) only [go_sem, Zz.look, Zz.over, Zz.cut, Nat.reduceAdd, Nat.reduceMul, Nat.reduceSub, Nat.reduceLeDiff, Nat.reduceEqDiff, Int.reduceNeg, Int.reduceAdd, Int.reduceToNat, reduceIte, reduceCtorEq]; rfl) (by simp only [pt8, pt0, pt1, pt2, pt3, pt4, pt5, pt6, pt7]; rfl) ?_) | (refine WO.specE rfl rfl (s71 (by decide) (by decide)) (by simp only [pt8, pt0, pt1, pt2, pt3, pt4, pt5, pt6, pt7]; rfl) ?_) | (refine WC.seq ?_) | (refine WC.region ?_) | (refine WO.nil ?_) | (simp only [fl1, fl2, fl3, fl4, fl5, fl6, fl7, fl8, fl9, fl10, Nat.reduceBEq]) | (refine WC.ret ?_))
  exact ⟨_, rfl, rfl⟩
theorem s40 {a b c d e f : Int} {m : Mem} : borrowE E2 40 [.agg [.int .i64 a, .int .i64 b, .int .i64 c, .int .i64 d, .int .i64 e, .int .i64 f]] m = some (.bool (decide (wi6 a b c d e f 576)), m) := borrowE_of rfl (f40.mono fun y m' h => by rw [h]; rfl)

noncomputable def E3 : Env := E2.put 40 (borrowE E2 40)
theorem E3_ok : EnvOk Tryd.prog E3 := Env.put_ok E2_ok (borrowE_ok E2_ok (callable Tryd.func40 (by kernel_rfl)))
theorem f50 {a b c d e f : Int} : WF E3 (.func 50 [] []) [.agg [.int .i64 a, .int .i64 b, .int .i64 c, .int .i64 d, .int .i64 e, .int .i64 f]] ⟨[], []⟩ fun y m' => y = .bool (decide (wi6 a b c d e f 48)) := by
  refine WF.fnE rfl (fn_of Tryd.func50 cir50) (by show 1 ≤ 5; decide) ?_
  unfold ir50
  simp only [padTo, List.replicate, List.nil_append, List.append_nil, List.cons_append]
  repeat' (first | (refine WO.opE (by intro; simp (disch := omega) only [go_sem, Zz.look, Zz.over, Zz.cut, Nat.reduceAdd, Nat.reduceMul, Nat.reduceSub, Nat.reduceLeDiff, Nat.reduceEqDiff, Int.reduceNeg, Int.reduceAdd, Int.reduceToNat, reduceIte, reduceCtorEq]; rfl) (by simp only [pt8, pt0, pt1, pt2, pt3, pt4, pt5, pt6, pt7]; rfl) ?_) | (refine WO.specE rfl rfl (s71 (by decide) (by decide)) (by simp only [pt8, pt0, pt1, pt2, pt3, pt4, pt5, pt6, pt7]; rfl) ?_) | (refine WC.seq ?_) | (refine WC.region ?_) | (refine WO.nil ?_) | (simp only [fl1, fl2, fl3, fl4, fl5, fl6, fl7, fl8, fl9, fl10, Nat.reduceBEq]) | (refine WC.ret ?_))
  exact ⟨_, rfl, rfl⟩
theorem s50 {a b c d e f : Int} {m : Mem} : borrowE E3 50 [.agg [.int .i64 a, .int .i64 b, .int .i64 c, .int .i64 d, .int .i64 e, .int .i64 f]] m = some (.bool (decide (wi6 a b c d e f 48)), m) := borrowE_of rfl (f50.mono fun y m' h => by rw [h]; rfl)

noncomputable def E4 : Env := E3.put 50 (borrowE E3 50)
theorem E4_ok : EnvOk Tryd.prog E4 := Env.put_ok E3_ok (borrowE_ok E3_ok (callable Tryd.func50 (by kernel_rfl)))
theorem f45 {w : Int} : WF E4 (.func 45 [] []) [.int .i64 w] ⟨[], []⟩ fun y m' => y = .bool (decide (-100 ≤ w ∧ w ≤ 100)) := by
  refine WF.fnE rfl (fn_of Tryd.func45 cir45) (by show 1 ≤ 5; decide) ?_
  unfold ir45
  simp only [padTo, List.replicate, List.nil_append, List.append_nil, List.cons_append]
  repeat' (first | (refine WO.opE (by intro; simp (disch := omega) only [go_sem, Zz.look, Zz.over, Zz.cut, Nat.reduceAdd, Nat.reduceMul, Nat.reduceSub, Nat.reduceLeDiff, Nat.reduceEqDiff, Int.reduceNeg, Int.reduceAdd, Int.reduceToNat, reduceIte, reduceCtorEq]; rfl) (by simp only [pt8, pt0, pt1, pt2, pt3, pt4, pt5, pt6, pt7]; rfl) ?_) | (refine WO.specE rfl rfl (s41) (by simp only [pt8, pt0, pt1, pt2, pt3, pt4, pt5, pt6, pt7]; rfl) ?_) | (refine WC.seq ?_) | (refine WC.region ?_) | (refine WO.nil ?_) | (simp only [fl1, fl2, fl3, fl4, fl5, fl6, fl7, fl8, fl9, fl10, Nat.reduceBEq]) | (refine WC.ret ?_))
  exact ⟨_, rfl, rfl⟩
theorem s45 {w : Int} {m : Mem} : borrowE E4 45 [.int .i64 w] m = some (.bool (decide (-100 ≤ w ∧ w ≤ 100)), m) := borrowE_of rfl (f45.mono fun y m' h => by rw [h]; rfl)

noncomputable def E5 : Env := E4.put 45 (borrowE E4 45)
theorem E5_ok : EnvOk Tryd.prog E5 := Env.put_ok E4_ok (borrowE_ok E4_ok (callable Tryd.func45 (by kernel_rfl)))

/-! ### A valid organ -/
def lastId (ps : List Pipe) (i : Nat) : Int := if i = 0 then 0 else (nth ps (i - 1)).id
def okI (ps : List Pipe) (i : Nat) : Prop := lastId ps i < (nth ps i).id ∧ (nth ps i).id ≤ 1000 ∧ wi6 (nth ps i).p0 (nth ps i).p1 (nth ps i).p2 (nth ps i).p3 (nth ps i).p4 (nth ps i).p5 576 ∧ (0 ≤ (nth ps i).wind ∧ (nth ps i).wind ≤ 1000) ∧ (0 ≤ (nth ps i).sag ∧ (nth ps i).sag ≤ 100000000) ∧ (0 ≤ (nth ps i).warm ∧ (nth ps i).warm ≤ 100000000)
def VO (ps : List Pipe) (sup tol : Int) : Prop := (∀ i, i < ps.length → okI ps i) ∧ ps.length ≤ 120 ∧ (0 ≤ sup ∧ sup ≤ 1000000) ∧ (0 ≤ tol ∧ tol ≤ 50000)
instance (ps : List Pipe) (i : Nat) : Decidable (okI ps i) := by unfold okI; infer_instance
instance (ps : List Pipe) (sup tol : Int) : Decidable (VO ps sup tol) := by unfold VO; infer_instance

theorem f14 {pv : AV} {ps : List Pipe} {sup tol : Int} (hq : PpL pv ps) (hmax : ps.length < 9223372036854775807) : WF E5 (.func 14 [] []) [.agg [pv, .int .i64 sup, .int .i64 tol]] ⟨[], []⟩ fun y m' => y = .bool (decide (VO ps sup tol)) := by
  have hlen := hq.len
  have hcell := SL.cells hq
  refine WF.fnE rfl (fn_of Tryd.func14 cir14) (by show 1 ≤ 63; decide) ?_
  unfold ir14
  simp only [padTo, List.replicate, List.nil_append, List.append_nil, List.cons_append]
  repeat' (first | (refine WO.opE (by intro; simp (disch := omega) only [go_sem, Zz.look, Zz.over, Zz.cut, Nat.reduceAdd, Nat.reduceMul, Nat.reduceSub, Nat.reduceLeDiff, Nat.reduceEqDiff, Int.reduceNeg, Int.reduceAdd, Int.reduceToNat, reduceIte, reduceCtorEq, hcell]; rfl) (by simp only [pt8, pt0, pt1, pt2, pt3, pt4, pt5, pt6, pt7]; rfl) ?_) | (refine WO.opE (by intro; exact ev_lenS (by simp only [go_sem]; first | rfl | assumption)) (by simp only [pt8, pt0, pt1, pt2, pt3, pt4, pt5, pt6, pt7]; rfl) ?_) | (refine WC.seq ?_) | (refine WC.region ?_) | (refine WO.nil ?_) | (simp only [fl1, fl2, fl3, fl4, fl5, fl6, fl7, fl8, fl9, fl10, Nat.reduceBEq]) | (refine WC.block ?_))
  refine WC.loopI (fun m s => ∃ T R i, s = ⟨T, some ⟨0, [pv, .int .i64 sup, .int .i64 tol]⟩ :: R, []⟩ ∧ T.length = 63 ∧ gt T 1 = .pref 0 0 0 ∧ gt T 3 = .int .i64 (lastId ps i) ∧ gt T 7 = pv ∧ gt T 8 = .int .i64 (ps.length : Nat) ∧ gt T 9 = .int .i64 (i : Nat) ∧ m + i = ps.length ∧ ∀ j, j < i → okI ps j) ?_ ps.length _ ⟨_, [], 0, rfl, rfl, rfl, rfl, rfl, rfl, rfl, by omega, fun j hj => by omega⟩
  rintro m _ ⟨T, R, i, rfl, hT, g1, g3, g7, g8, g9, hm, hi⟩
  obtain ⟨f, rfl⟩ := ex63 hT
  clear hT
  replace g1 : f 1 = .pref 0 0 0 := g1
  replace g3 : f 3 = .int .i64 (lastId ps i) := g3
  replace g7 : f 7 = pv := g7
  replace g8 : f 8 = .int .i64 (ps.length : Nat) := g8
  replace g9 : f 9 = .int .i64 (i : Nat) := g9
  simp only [g1, g3, g7, g8, g9]
  by_cases hin : i < ps.length
  · have ok : okI ps i ↔ (lastId ps i < (nth ps i).id ∧ (nth ps i).id ≤ 1000 ∧ wi6 (nth ps i).p0 (nth ps i).p1 (nth ps i).p2 (nth ps i).p3 (nth ps i).p4 (nth ps i).p5 576 ∧ (0 ≤ (nth ps i).wind ∧ (nth ps i).wind ≤ 1000) ∧ (0 ≤ (nth ps i).sag ∧ (nth ps i).sag ≤ 100000000) ∧ (0 ≤ (nth ps i).warm ∧ (nth ps i).warm ≤ 100000000)) := Iff.rfl
    have e1 : lastId ps (i + 1) = (nth ps i).id := by simp [lastId]
    repeat' (first | (refine WO.yes rfl ?_) | (refine WO.noE rfl (by simp only [pt8, pt0, pt1, pt2, pt3, pt4, pt5, pt6, pt7]; rfl) ?_) | (refine WO.opE (by intro; simp (disch := omega) only [go_sem, zeros, List.append_assoc, List.length_append, Zz.look, ov_all6, Nat.reduceAdd, Nat.reduceMul, Nat.reduceSub, Nat.reduceLeDiff, Nat.reduceEqDiff, Int.reduceNeg, Int.reduceAdd, Int.reduceToNat, reduceIte, reduceCtorEq, hq.at, cut10, over10, app_g0, app_g1, app_g2, app_g3, app_g4, app_s0, app_s1, app_s2, app_s3, app_s4]; rfl) (by simp only [pt8, pt0, pt1, pt2, pt3, pt4, pt5, pt6, pt7]; rfl) ?_) | (refine WO.opN (by intro; simp (disch := omega) only [go_sem, zeros, List.append_assoc, List.length_append, Zz.look, ov_all6, Nat.reduceAdd, Nat.reduceMul, Nat.reduceSub, Nat.reduceLeDiff, Nat.reduceEqDiff, Int.reduceNeg, Int.reduceAdd, Int.reduceToNat, reduceIte, reduceCtorEq, hq.at, cut10, over10, app_g0, app_g1, app_g2, app_g3, app_g4, app_s0, app_s1, app_s2, app_s3, app_s4]; rfl) ?_) | (refine WO.specE rfl rfl (s40) (by simp only [pt8, pt0, pt1, pt2, pt3, pt4, pt5, pt6, pt7]; rfl) ?_) | (refine WO.specE rfl rfl (s41) (by simp only [pt8, pt0, pt1, pt2, pt3, pt4, pt5, pt6, pt7]; rfl) ?_) | (refine WC.seq ?_) | (refine WC.region ?_) | (refine WO.nil ?_) | (simp only [fl1, fl2, fl3, fl4, fl5, fl6, fl7, fl8, fl9, fl10, Nat.reduceBEq]) | (refine WC.yes rfl ?_) | (refine WC.skip ?_) | (refine WC.ret ?_) | (refine WC.block ?_) | (refine WO.em2 rfl (by intro hp; simp only [hp, decide_true]; rfl) (by intro hp; simp only [hp, decide_false]; rfl) (fun hp => ?_) (fun hp => ?_) <;> try (exfalso; first | omega | contradiction)) | (refine WC.em2 rfl (fun hp => ?_) (fun hp => ?_) <;> try (exfalso; first | omega | contradiction)))
    iterate 6
      (· refine ⟨_, rfl, ?_⟩
         simp only [oneRes, gt8, gt0, gt1, gt2, gt3, gt4, gt5, gt6, gt7, AV.bool.injEq]
         symm
         rw [decide_eq_false_iff_not]
         intro hv
         have h1 := ok.1 (hv.1 i hin)
         first | omega | exact hp h1.2.2.1)
    exact ⟨m - 1, by omega, _, _, i + 1, rfl, rfl, rfl, by rw [e1]; rfl, rfl, rfl, rfl, by omega, fun j hj => by
      by_cases e : j = i
      · subst e; exact ok.2 ⟨by omega, by omega, Decidable.of_not_not ‹_›, Decidable.of_not_not ‹_›, Decidable.of_not_not ‹_›, Decidable.of_not_not ‹_›⟩
      · exact hi j (by omega)⟩
  · have hi' : i = ps.length := by omega
    subst hi'
    repeat' (first | (refine WO.yes rfl ?_) | (refine WO.noE rfl (by simp only [pt8, pt0, pt1, pt2, pt3, pt4, pt5, pt6, pt7]; rfl) ?_) | (refine WO.opE (by intro; simp (disch := omega) only [go_sem, zeros, List.append_assoc, List.length_append, Zz.look, ov_all6, Nat.reduceAdd, Nat.reduceMul, Nat.reduceSub, Nat.reduceLeDiff, Nat.reduceEqDiff, Int.reduceNeg, Int.reduceAdd, Int.reduceToNat, reduceIte, reduceCtorEq, hq.at, cut10, over10, app_g0, app_g1, app_g2, app_g3, app_g4, app_s0, app_s1, app_s2, app_s3, app_s4]; rfl) (by simp only [pt8, pt0, pt1, pt2, pt3, pt4, pt5, pt6, pt7]; rfl) ?_) | (refine WO.opE (by intro; exact ev_lenS (by simp only [go_sem]; first | rfl | assumption)) (by simp only [pt8, pt0, pt1, pt2, pt3, pt4, pt5, pt6, pt7]; rfl) ?_) | (refine WO.specE rfl rfl (s41) (by simp only [pt8, pt0, pt1, pt2, pt3, pt4, pt5, pt6, pt7]; rfl) ?_) | (refine WC.seq ?_) | (refine WC.region ?_) | (refine WO.nil ?_) | (simp only [fl1, fl2, fl3, fl4, fl5, fl6, fl7, fl8, fl9, fl10, Nat.reduceBEq]) | (refine WC.exit ?_) | (refine WC.ret ?_) | (refine WO.em2 rfl (by intro hp; simp only [hp, decide_true]; rfl) (by intro hp; simp only [hp, decide_false]; rfl) (fun hp => ?_) (fun hp => ?_) <;> try (exfalso; first | omega | contradiction)) | (refine WC.em2 rfl (fun hp => ?_) (fun hp => ?_) <;> try (exfalso; first | omega | contradiction)))
    · refine ⟨_, rfl, ?_⟩
      simp only [oneRes, gt8, gt0, gt1, gt2, gt3, gt4, gt5, gt6, gt7, and_self, decide_true, if_true, AV.bool.injEq]
      rw [decide_eq_decide]
      exact ⟨fun h => ⟨hi, by omega, by assumption, h⟩, fun h => h.2.2.2⟩
    · refine ⟨_, rfl, ?_⟩
      simp only [oneRes, gt8, gt0, gt1, gt2, gt3, gt4, gt5, gt6, gt7, AV.bool.injEq]
      symm
      rw [decide_eq_false_iff_not]
      exact fun h => hp h.2.2.1
    · refine ⟨_, rfl, ?_⟩
      simp only [oneRes, gt8, gt0, gt1, gt2, gt3, gt4, gt5, gt6, gt7, AV.bool.injEq]
      symm
      rw [decide_eq_false_iff_not]
      intro h
      have := h.2.1
      omega
theorem pure3 {pv : AV} {a b : Int} (h : Zz.pureC pv = true) : Zz.pureA (.agg [pv, .int .i64 a, .int .i64 b]) = true := by
  show (Zz.pureC pv && _) = true
  rw [h]
  rfl
theorem s14 {pv : AV} {ps : List Pipe} {sup tol : Int} (hq : PpL pv ps) (hmax : ps.length < 9223372036854775807) {m : Mem} : borrowE E5 14 [.agg [pv, .int .i64 sup, .int .i64 tol]] m = some (.bool (decide (VO ps sup tol)), m) :=
  borrowE_of (pures_cons (pure3 hq.pureC) rfl) ((f14 hq hmax).mono fun y m' h => by rw [h]; rfl)

noncomputable def E6 : Env := E5.put 14 (borrowE E5 14)
theorem E6_ok : EnvOk Tryd.prog E6 := Env.put_ok E5_ok (borrowE_ok E5_ok (callable Tryd.func14 (by kernel_rfl)))
end Go.Proofs.YtjbdefmhjmkifaaDoor


set_option linter.unusedSimpArgs false
set_option linter.unusedVariables false
namespace Go.Proofs.YtjbdefmhjmkifaaDoor
open Go.Zz
set_option maxRecDepth 100000
set_option maxHeartbeats 1000000
/-! ### The pipe with an ID -/
def pos (ps : List Pipe) (id : Int) : Nat := ps.findIdx (fun p => decide (p.id = id))
def pipeOf (ps : List Pipe) (id : Int) : Pipe := nth ps (pos ps id)
theorem pos_eq {ps : List Pipe} {id : Int} {i : Nat} (hi : i < ps.length) (h : (nth ps i).id = id) (hj : ∀ j, j < i → (nth ps j).id ≠ id) : pos ps id = i := by
  unfold pos
  rw [List.findIdx_eq hi]
  refine ⟨by rw [nth_lt hi] at h; simpa using h, fun j hji => ?_⟩
  have := hj j hji
  rw [nth_lt (by omega)] at this
  simpa using this
theorem pos_none {ps : List Pipe} {id : Int} (hj : ∀ j, j < ps.length → (nth ps j).id ≠ id) : pos ps id = ps.length := by
  unfold pos
  rw [List.findIdx_eq_length]
  intro p hp
  obtain ⟨j, hjl, rfl⟩ := List.getElem_of_mem hp
  have := hj j hjl
  rw [nth_lt hjl] at this
  simpa using this
theorem pos_at {ps : List Pipe} {id : Int} (h : pos ps id < ps.length) : (nth ps (pos ps id)).id = id := by
  have := List.findIdx_getElem (p := fun p : Pipe => decide (p.id = id)) (xs := ps) (w := h)
  rw [nth_lt h]
  exact of_decide_eq_true this
theorem f74 {q : Nat} {H : Hp} {L : List (Option ALoop)} {id : Int} {i a b c d e g w s r : Int} (hk : Zz.look H q 0 = some [.int .i64 id]) :
    WF E6 (.func 74 [] [.pref q 0 0]) [.agg [.int .i64 i, .int .i64 a, .int .i64 b, .int .i64 c, .int .i64 d, .int .i64 e, .int .i64 g, .int .i64 w, .int .i64 s, .int .i64 r]] ⟨H, L⟩ fun v m' => v = .bool (decide (i = id)) ∧ m' = ⟨H ++ [some ⟨0, [.int .i64 i, .int .i64 a, .int .i64 b, .int .i64 c, .int .i64 d, .int .i64 e, .int .i64 g, .int .i64 w, .int .i64 s, .int .i64 r]⟩], L⟩ := by
  have hlt := look_lt hk
  refine WF.fnE rfl (fn_of Tryd.func74 cir74) (by show 2 ≤ 8; decide) ?_
  unfold ir74
  simp only [padTo, List.replicate, List.nil_append, List.append_nil, List.cons_append]
  repeat' (first | (refine WO.opE (by intro; simp (disch := omega) only [go_sem, zeros, Nat.reduceAdd, Nat.reduceMul, Nat.reduceSub, Nat.reduceLeDiff, Nat.reduceEqDiff, Int.reduceNeg, Int.reduceAdd, Int.reduceToNat, reduceIte, reduceCtorEq, hk, look_left, lk0]; rfl) (by simp only [pt8, pt0, pt1, pt2, pt3, pt4, pt5, pt6, pt7]; rfl) ?_) | (refine WC.seq ?_) | (refine WC.region ?_) | (refine WO.nil ?_) | (simp only [fl1, fl2, fl3, fl4, fl5, fl6, fl7, fl8, fl9, fl10, Nat.reduceBEq]) | (refine WC.ret ?_))
  exact ⟨_, rfl, rfl, rfl⟩

theorem f73 {q : Nat} {H : Hp} {L : List (Option ALoop)} {id : Int} {pv : AV} {ps : List Pipe} (hq : PpL pv ps) (hmax : ps.length < 9223372036854775807) (hk : Zz.look H q 0 = some [.int .i64 id]) :
    WF E6 (.func 73 [] []) [pv, .func 74 [] [.pref q 0 0]] ⟨H, L⟩ fun v m' => ∃ R, v = .int .i64 (if pos ps id < ps.length then (pos ps id : Int) else -1) ∧ m' = ⟨H ++ R, L⟩ := by
  have hlen := hq.len
  refine WF.fnE rfl (fn_of Tryd.func73 cir73) (by show 2 ≤ 19; decide) ?_
  unfold ir73
  simp only [padTo, List.replicate, List.nil_append, List.append_nil, List.cons_append]
  repeat' (first | (refine WO.opE (by intro; simp (disch := omega) only [go_sem, Zz.look, Zz.over, Zz.cut, Nat.reduceAdd, Nat.reduceMul, Nat.reduceSub, Nat.reduceLeDiff, Nat.reduceEqDiff, Int.reduceNeg, Int.reduceAdd, Int.reduceToNat, reduceIte, reduceCtorEq]; rfl) (by simp only [pt8, pt0, pt1, pt2, pt3, pt4, pt5, pt6, pt7]; rfl) ?_) | (refine WO.opE (by intro; exact ev_lenS (by simp only [go_sem]; first | rfl | assumption)) (by simp only [pt8, pt0, pt1, pt2, pt3, pt4, pt5, pt6, pt7]; rfl) ?_) | (refine WC.seq ?_) | (refine WC.region ?_) | (refine WO.nil ?_) | (simp only [fl1, fl2, fl3, fl4, fl5, fl6, fl7, fl8, fl9, fl10, Nat.reduceBEq]) | (refine WC.block ?_))
  refine WC.loopI (fun m s => ∃ T R i, s = ⟨T, H ++ R, L⟩ ∧ T.length = 19 ∧ gt T 0 = pv ∧ gt T 1 = .func 74 [] [.pref q 0 0] ∧ gt T 7 = .int .i64 (ps.length : Nat) ∧ gt T 8 = .int .i64 (i : Nat) ∧ m + i = ps.length ∧ ∀ j, j < i → (nth ps j).id ≠ id) ?_ ps.length _ ⟨_, [], 0, by simp only [List.append_nil]; rfl, rfl, rfl, rfl, rfl, rfl, by omega, fun j hj => by omega⟩
  rintro m _ ⟨T, R, i, rfl, hT, g0, g1, g7, g8, hm, hi⟩
  obtain ⟨f, rfl⟩ := ex19 hT
  clear hT
  replace g0 : f 0 = pv := g0
  replace g1 : f 1 = .func 74 [] [.pref q 0 0] := g1
  replace g7 : f 7 = .int .i64 (ps.length : Nat) := g7
  replace g8 : f 8 = .int .i64 (i : Nat) := g8
  simp only [g0, g1, g7, g8]
  by_cases hin : i < ps.length
  · have hk' : Zz.look (H ++ R) q 0 = some [.int .i64 id] := by rw [look_left (look_lt hk)]; exact hk
    repeat' (first | (refine WO.opE (by intro; simp (disch := omega) only [go_sem, zeros, Nat.reduceAdd, Nat.reduceMul, Nat.reduceSub, Nat.reduceLeDiff, Nat.reduceEqDiff, Int.reduceNeg, Int.reduceAdd, Int.reduceToNat, reduceIte, reduceCtorEq, hq.at, cut10]; rfl) (by simp only [pt8, pt0, pt1, pt2, pt3, pt4, pt5, pt6, pt7]; rfl) ?_) | (refine WO.callE rfl rfl (f74 hk') (by simp only [pt8, pt0, pt1, pt2, pt3, pt4, pt5, pt6, pt7]; rfl) ?_) | (refine WC.seq ?_) | (refine WC.region ?_) | (refine WO.nil ?_) | (simp only [fl1, fl2, fl3, fl4, fl5, fl6, fl7, fl8, fl9, fl10, Nat.reduceBEq]) | (refine WC.skip ?_) | (refine WC.ret ?_) | (refine WC.block ?_) | (refine WC.em2 rfl (fun hp => ?_) (fun hp => ?_) <;> try (exfalso; first | omega | contradiction)))
    · have hp1 := pos_eq hin hp hi
      refine ⟨_, rfl, R ++ [_], ?_, by rw [← List.append_assoc]; rfl⟩
      rw [hp1, if_pos hin]
      rfl
    · exact ⟨m - 1, by omega, _, R ++ [_], i + 1, by rw [← List.append_assoc], rfl, rfl, rfl, rfl, rfl, by omega, fun j hj => by
        by_cases e : j = i
        · subst e; exact hp
        · exact hi j (by omega)⟩
  · have hi' : i = ps.length := by omega
    subst hi'
    repeat' (first | (refine WO.opE (by intro; simp (disch := omega) only [go_sem, Zz.look, Zz.over, Zz.cut, Nat.reduceAdd, Nat.reduceMul, Nat.reduceSub, Nat.reduceLeDiff, Nat.reduceEqDiff, Int.reduceNeg, Int.reduceAdd, Int.reduceToNat, reduceIte, reduceCtorEq]; rfl) (by simp only [pt8, pt0, pt1, pt2, pt3, pt4, pt5, pt6, pt7]; rfl) ?_) | (refine WC.seq ?_) | (refine WC.region ?_) | (refine WO.nil ?_) | (simp only [fl1, fl2, fl3, fl4, fl5, fl6, fl7, fl8, fl9, fl10, Nat.reduceBEq]) | (refine WC.exit ?_) | (refine WC.ret ?_) | (refine WC.em2 rfl (fun hp => ?_) (fun hp => ?_) <;> try (exfalso; first | omega | contradiction)))
    refine ⟨_, rfl, R, ?_, rfl⟩
    rw [if_neg (by rw [pos_none hi]; omega)]
    rfl

/-- pipe. -/
theorem f43 {pv : AV} {ps : List Pipe} {sup tol id : Int} (hq : PpL pv ps) (hmax : ps.length < 9223372036854775807) : WF E6 (.func 43 [] []) [.agg [pv, .int .i64 sup, .int .i64 tol], .int .i64 id] ⟨[], []⟩ fun y m' =>
    resV m'.heap y = some (.tuple [.agg (pipeOf ps id).cells, .bool (decide (pos ps id < ps.length))]) := by
  have hlen := hq.len
  have hcell := SL.cells hq
  have h73 : ∀ H L, Zz.look H 1 0 = some [.int .i64 id] → _ := fun H L hk => f73 (q := 1) (H := H) (L := L) hq hmax hk
  by_cases hps : pos ps id < ps.length
  · simp only [if_pos hps] at h73
    refine WF.fnE rfl (fn_of Tryd.func43 cir43) (by show 2 ≤ 19; decide) ?_
    unfold ir43
    simp only [padTo, List.replicate, List.nil_append, List.append_nil, List.cons_append]
    repeat' (first | (refine WO.opE (by intro; simp (disch := omega) only [go_sem, zeros, Zz.cut, List.append_assoc, List.length_append, Zz.look, Zz.over, Nat.reduceAdd, Nat.reduceMul, Nat.reduceSub, Nat.reduceLeDiff, Nat.reduceEqDiff, Int.reduceNeg, Int.reduceAdd, Int.reduceToNat, reduceIte, reduceCtorEq, hcell, List.map_cons, List.map_nil]; rfl) (by simp only [pt8, pt0, pt1, pt2, pt3, pt4, pt5, pt6, pt7]; rfl) ?_) | (refine WC.seq ?_) | (refine WC.region ?_) | (refine WO.nil ?_) | (simp only [fl1, fl2, fl3, fl4, fl5, fl6, fl7, fl8, fl9, fl10, Nat.reduceBEq]))
    refine WO.call rfl rfl ((h73 _ _ rfl).mono ?_)
    rintro v m' ⟨R, rfl, rfl⟩
    simp only [pt8, pt0, pt1, pt2, pt3, pt4, pt5, pt6, pt7, gt8, gt0, gt1, gt2, gt3, gt4, gt5, gt6, gt7]
    repeat' (first | (refine WO.opE (by intro; simp (disch := omega) only [go_sem, Zz.look, ov_all6, over10, List.append_assoc, List.length_append, Nat.reduceAdd, Nat.reduceMul, Nat.reduceSub, Nat.reduceLeDiff, Nat.reduceEqDiff, Int.reduceNeg, Int.reduceAdd, Int.reduceToNat, reduceIte, reduceCtorEq, hcell, hq.at, cut10]; rfl) (by simp only [pt8, pt0, pt1, pt2, pt3, pt4, pt5, pt6, pt7]; rfl) ?_) | (refine WO.opN (by intro; simp (disch := omega) only [go_sem, Zz.look, ov_all6, over10, List.append_assoc, List.length_append, Nat.reduceAdd, Nat.reduceMul, Nat.reduceSub, Nat.reduceLeDiff, Nat.reduceEqDiff, Int.reduceNeg, Int.reduceAdd, Int.reduceToNat, reduceIte, reduceCtorEq, hcell, hq.at, cut10]; rfl) ?_) | (refine WC.seq ?_) | (refine WC.region ?_) | (refine WO.nil ?_) | (simp only [fl1, fl2, fl3, fl4, fl5, fl6, fl7, fl8, fl9, fl10, Nat.reduceBEq]) | (refine WC.no rfl ?_) | (refine WC.skip ?_) | (refine WC.ret ?_))
    refine ⟨_, rfl, ?_⟩
    simp only [hps, decide_true]
    rfl
  · simp only [if_neg hps] at h73
    refine WF.fnE rfl (fn_of Tryd.func43 cir43) (by show 2 ≤ 19; decide) ?_
    unfold ir43
    simp only [padTo, List.replicate, List.nil_append, List.append_nil, List.cons_append]
    repeat' (first | (refine WO.opE (by intro; simp (disch := omega) only [go_sem, zeros, Zz.cut, List.append_assoc, List.length_append, Zz.look, Zz.over, Nat.reduceAdd, Nat.reduceMul, Nat.reduceSub, Nat.reduceLeDiff, Nat.reduceEqDiff, Int.reduceNeg, Int.reduceAdd, Int.reduceToNat, reduceIte, reduceCtorEq, hcell, List.map_cons, List.map_nil]; rfl) (by simp only [pt8, pt0, pt1, pt2, pt3, pt4, pt5, pt6, pt7]; rfl) ?_) | (refine WC.seq ?_) | (refine WC.region ?_) | (refine WO.nil ?_) | (simp only [fl1, fl2, fl3, fl4, fl5, fl6, fl7, fl8, fl9, fl10, Nat.reduceBEq]))
    refine WO.call rfl rfl ((h73 _ _ rfl).mono ?_)
    rintro v m' ⟨R, rfl, rfl⟩
    simp only [pt8, pt0, pt1, pt2, pt3, pt4, pt5, pt6, pt7, gt8, gt0, gt1, gt2, gt3, gt4, gt5, gt6, gt7]
    repeat' (first | (refine WO.opE (by intro; simp (disch := omega) only [go_sem, Zz.look, ov_all6, over10, List.append_assoc, List.length_append, Nat.reduceAdd, Nat.reduceMul, Nat.reduceSub, Nat.reduceLeDiff, Nat.reduceEqDiff, Int.reduceNeg, Int.reduceAdd, Int.reduceToNat, reduceIte, reduceCtorEq, hcell, hq.at, cut10, fillP]; rfl) (by simp only [pt8, pt0, pt1, pt2, pt3, pt4, pt5, pt6, pt7]; rfl) ?_) | (refine WO.opN (by intro; simp (disch := omega) only [go_sem, Zz.look, ov_all6, over10, List.append_assoc, List.length_append, Nat.reduceAdd, Nat.reduceMul, Nat.reduceSub, Nat.reduceLeDiff, Nat.reduceEqDiff, Int.reduceNeg, Int.reduceAdd, Int.reduceToNat, reduceIte, reduceCtorEq, hcell, hq.at, cut10, fillP]; rfl) ?_) | (refine WC.seq ?_) | (refine WC.region ?_) | (refine WO.nil ?_) | (simp only [fl1, fl2, fl3, fl4, fl5, fl6, fl7, fl8, fl9, fl10, Nat.reduceBEq]) | (refine WC.yes rfl ?_) | (refine WC.ret ?_))
    refine ⟨_, rfl, ?_⟩
    have e : pipeOf ps id = default := by
      unfold pipeOf nth
      rw [List.getD_eq_getElem?_getD, List.getElem?_eq_none (by omega)]
      rfl
    simp only [hps, decide_false, e]
    rfl
theorem s43 {pv : AV} {ps : List Pipe} {sup tol id : Int} (hq : PpL pv ps) (hmax : ps.length < 9223372036854775807) {m : Mem} : borrowE E6 43 [.agg [pv, .int .i64 sup, .int .i64 tol], .int .i64 id] m = some (.tuple [.agg (pipeOf ps id).cells, .bool (decide (pos ps id < ps.length))], m) :=
  borrowE_of (pures_cons (pure3 hq.pureC) (pures_cons rfl rfl)) (f43 hq hmax)

noncomputable def E7 : Env := E6.put 43 (borrowE E6 43)
theorem E7_ok : EnvOk Tryd.prog E7 := Env.put_ok E6_ok (borrowE_ok E6_ok (callable Tryd.func43 (by kernel_rfl)))

/-! ### The pipes with some IDs -/
theorem f39 {E : Env} (hE : E.spec 39 = none) (hF : E.fn 39 = some ir39) {pv iv : AV} {sup tol : Int} {H : Hp} {L : List (Option ALoop)} {N : Nat} (hc : iv.cells = some [iv]) (hN : H.length = N) : WF E (.func 39 [] []) [.agg [pv, .int .i64 sup, .int .i64 tol], iv] ⟨H, L⟩ fun v m' =>
    v = .func 70 [] [.pref (N + 1) 0 0, .pref N 0 0] ∧ m' = ⟨H ++ [some ⟨0, [pv, .int .i64 sup, .int .i64 tol]⟩, some ⟨0, [iv]⟩], L⟩ := by
  subst hN
  unfold AV.cells at hc
  refine WF.fnE hE hF (by show 2 ≤ 6; decide) ?_
  unfold ir39
  simp only [padTo, List.replicate, List.nil_append, List.append_nil, List.cons_append]
  repeat' (first | (refine WO.opE (by intro; simp (disch := omega) only [go_sem, List.append_assoc, List.length_append, Nat.reduceAdd, Nat.reduceMul, Nat.reduceSub, Nat.reduceLeDiff, Nat.reduceEqDiff, Int.reduceNeg, Int.reduceAdd, Int.reduceToNat, reduceIte, reduceCtorEq, hc, List.map_cons, List.map_nil]; rfl) (by simp only [pt8, pt0, pt1, pt2, pt3, pt4, pt5, pt6, pt7]; rfl) ?_) | (refine WC.seq ?_) | (refine WC.region ?_) | (refine WO.nil ?_) | (simp only [fl1, fl2, fl3, fl4, fl5, fl6, fl7, fl8, fl9, fl10, Nat.reduceBEq]) | (refine WC.ret ?_))
  exact ⟨_, rfl, rfl, rfl⟩

/-- A list of integers that can be read. -/
structure RdI (H : Hp) (iv : AV) (ids : List Int) : Prop where
  len : slen iv = some ids.length
  cells : iv.cells = some [iv]
  at_ : ∀ j : Nat, j < ids.length → ∃ a, indexAddrAV 1 iv (.int .i64 (j : Int)) = some a ∧ loadAV H false 1 a = some (.int .i64 (ids.getD j 0))
theorem intS_rd {iv : AV} {ids : List Int} (h : IntS iv ids) (H : Hp) : RdI H iv ids :=
  ⟨h.len, h.cells, fun j hj => ⟨_, h.atI (by omega) (by omega), rfl⟩⟩
theorem rd_sref {H : Hp} {q g n : Nat} {cap : Option Nat} {ids : List Int} (h : Zz.look H q g = some (ids.map (.int .i64))) (hn : n = ids.length) : RdI H (.sref q g 0 1 n cap) ids := by
  subst hn
  refine ⟨rfl, rfl, fun j hj => ⟨.pref q g (0 + j * 1), by rw [ia_sref, idx_nat hj]; rfl, ?_⟩⟩
  show (Zz.look H q g).bind _ = _
  rw [h]
  show loadCs false 1 (ids.map (AV.int .i64)) (0 + j * 1) = _
  rw [Nat.mul_one, Nat.zero_add]
  exact int_at hj

theorem f70 {E : Env} (hE70 : E.spec 70 = none) (hF70 : E.fn 70 = some ir70) (h43 : E.spec 43 = some (borrowE E6 43)) {pv iv : AV} {ps : List Pipe} {ids : List Int} {sup tol : Int} {qi qo k : Nat} {H : Hp} {L : List (Option ALoop)} (hq : PpL pv ps) (hmax : ps.length < 9223372036854775807) (himax : ids.length < 9223372036854775807) (I : Nat → Hp → Prop) (Q : Mem → Prop) (h0 : I 0 H)
    (hlook : ∀ i H, I i H → RdI H iv ids ∧ Zz.look H qi 0 = some [iv] ∧ Zz.look H qo 0 = some [pv, .int .i64 sup, .int .i64 tol])
    (hgrow : ∀ i H b, I i H → I i (H ++ [b]))
    (hskip : ∀ i H, i < ids.length → ¬ pos ps (ids.getD i 0) < ps.length → I i H → I (i + 1) H)
    (hstep : ∀ i H, i < ids.length → pos ps (ids.getD i 0) < ps.length → I i H → WF E (.yield k) [.agg (pipeOf ps (ids.getD i 0)).cells] ⟨H, L⟩ fun v m' => (v = .bool true ∧ m'.loops = L ∧ I (i + 1) m'.heap) ∨ (v = .bool false ∧ Q m')) :
    WF E (.func 70 [] [.pref qi 0 0, .pref qo 0 0]) [.yield k] ⟨H, L⟩ fun v m' => (m'.loops = L ∧ I ids.length m'.heap) ∨ Q m' := by
  have hlen := (hlook _ _ h0).1.len
  refine WF.fnE hE70 hF70 (by show 3 ≤ 28; decide) ?_
  unfold ir70
  simp only [padTo, List.replicate, List.nil_append, List.append_nil, List.cons_append]
  have k0 := (hlook _ _ h0).2.1
  repeat' (first | (refine WO.opE (by intro; simp (disch := omega) only [go_sem, zeros, Nat.reduceAdd, Nat.reduceMul, Nat.reduceSub, Nat.reduceLeDiff, Nat.reduceEqDiff, Int.reduceNeg, Int.reduceAdd, Int.reduceToNat, reduceIte, reduceCtorEq, k0]; rfl) (by simp only [pt8, pt0, pt1, pt2, pt3, pt4, pt5, pt6, pt7]; rfl) ?_) | (refine WO.opE (by intro; exact ev_lenS (by simp only [go_sem]; first | rfl | assumption)) (by simp only [pt8, pt0, pt1, pt2, pt3, pt4, pt5, pt6, pt7]; rfl) ?_) | (refine WC.seq ?_) | (refine WC.region ?_) | (refine WO.nil ?_) | (simp only [fl1, fl2, fl3, fl4, fl5, fl6, fl7, fl8, fl9, fl10, Nat.reduceBEq]) | (refine WC.block ?_))
  refine WC.loopI (fun m s => ∃ T H i, s = ⟨T, H, L⟩ ∧ T.length = 28 ∧ gt T 0 = .yield k ∧ gt T 1 = .pref qi 0 0 ∧ gt T 2 = .pref qo 0 0 ∧ gt T 8 = iv ∧ gt T 9 = .int .i64 (ids.length : Nat) ∧ gt T 10 = .int .i64 (i : Nat) ∧ m + i = ids.length ∧ I i H) ?_ ids.length _ ⟨_, H, 0, rfl, rfl, rfl, rfl, rfl, rfl, rfl, rfl, by omega, h0⟩
  clear h0 k0
  rintro m _ ⟨T, H, i, rfl, hT, g0, g1, g2, g8, g9, g10, hm, hi⟩
  obtain ⟨f, rfl⟩ := ex28 hT
  clear hT
  replace g0 : f 0 = .yield k := g0
  replace g1 : f 1 = .pref qi 0 0 := g1
  replace g2 : f 2 = .pref qo 0 0 := g2
  replace g8 : f 8 = iv := g8
  replace g9 : f 9 = .int .i64 (ids.length : Nat) := g9
  replace g10 : f 10 = .int .i64 (i : Nat) := g10
  simp only [g0, g1, g2, g8, g9, g10]
  obtain ⟨krd, k0, k1⟩ := hlook _ _ hi
  by_cases hin : i < ids.length
  · obtain ⟨ia, ia1, ia2⟩ := krd.at_ i hin
    by_cases hps : pos ps (ids.getD i 0) < ps.length
    repeat' (first | (refine WO.yes rfl ?_) | (refine WO.noE rfl (by simp only [pt8, pt0, pt1, pt2, pt3, pt4, pt5, pt6, pt7]; rfl) ?_) | (refine WO.opE (by intro; simp (disch := omega) only [go_sem, zeros, Nat.reduceAdd, Nat.reduceMul, Nat.reduceSub, Nat.reduceLeDiff, Nat.reduceEqDiff, Int.reduceNeg, Int.reduceAdd, Int.reduceToNat, reduceIte, reduceCtorEq, ia1, k1, Pipe.cells, over10, cut10, lk0, st0]; rfl) (by simp only [pt8, pt0, pt1, pt2, pt3, pt4, pt5, pt6, pt7]; rfl) ?_) | (refine WO.opN (by intro; simp (disch := omega) only [go_sem, zeros, Nat.reduceAdd, Nat.reduceMul, Nat.reduceSub, Nat.reduceLeDiff, Nat.reduceEqDiff, Int.reduceNeg, Int.reduceAdd, Int.reduceToNat, reduceIte, reduceCtorEq, ia1, k1, Pipe.cells, over10, cut10, lk0, st0]; rfl) ?_) | (refine WO.specE rfl h43 (s43 hq hmax) (by simp only [pt8, pt0, pt1, pt2, pt3, pt4, pt5, pt6, pt7]; rfl) ?_) | (refine WO.opE (by intro; simp only [ev_load, Opd.ev, gt8, gt0, gt1, gt2, gt3, gt4, gt5, gt6, gt7, ia2, Option.map_some]; rfl) (by simp only [pt8, pt0, pt1, pt2, pt3, pt4, pt5, pt6, pt7]; rfl) ?_) | (refine WC.seq ?_) | (refine WC.region ?_) | (refine WO.nil ?_) | (simp only [fl1, fl2, fl3, fl4, fl5, fl6, fl7, fl8, fl9, fl10, Nat.reduceBEq]) | (refine WC.no rfl ?_) | (refine WC.skip ?_) | (refine WC.block ?_) | (refine WO.em2 rfl (by intro hp; simp only [hp, decide_true]; rfl) (by intro hp; simp only [hp, decide_false]; rfl) (fun hp => ?_) (fun hp => ?_) <;> try (exfalso; first | omega | contradiction)) | (refine WC.em2 rfl (fun hp => ?_) (fun hp => ?_) <;> try (exfalso; first | omega | contradiction)))
    · refine WO.call rfl rfl ((hstep i _ hin hps (hgrow _ _ _ hi)).mono ?_)
      rintro v ⟨H', L'⟩ (⟨rfl, rfl, h2⟩ | ⟨rfl, h2⟩)
      · simp only [pt8, pt0, pt1, pt2, pt3, pt4, pt5, pt6, pt7, gt8, gt0, gt1, gt2, gt3, gt4, gt5, gt6, gt7]
        repeat' (first | (refine WO.yes rfl ?_) | (refine WO.opE (by intro; simp (disch := omega) only [go_sem, zeros, Nat.reduceAdd, Nat.reduceMul, Nat.reduceSub, Nat.reduceLeDiff, Nat.reduceEqDiff, Int.reduceNeg, Int.reduceAdd, Int.reduceToNat, reduceIte, reduceCtorEq]; rfl) (by simp only [pt8, pt0, pt1, pt2, pt3, pt4, pt5, pt6, pt7]; rfl) ?_) | (refine WC.region ?_) | (refine WO.nil ?_) | (simp only [fl1, fl2, fl3, fl4, fl5, fl6, fl7, fl8, fl9, fl10, Nat.reduceBEq]) | (refine WC.no rfl ?_) | (refine WC.skip ?_))
        exact ⟨m - 1, by omega, _, _, i + 1, rfl, rfl, rfl, rfl, rfl, rfl, rfl, rfl, by omega, h2⟩
      · simp only [pt8, pt0, pt1, pt2, pt3, pt4, pt5, pt6, pt7, gt8, gt0, gt1, gt2, gt3, gt4, gt5, gt6, gt7]
        repeat' (first | (refine WO.yes rfl ?_) | (refine WO.opE (by intro; simp (disch := omega) only [go_sem, zeros, Nat.reduceAdd, Nat.reduceMul, Nat.reduceSub, Nat.reduceLeDiff, Nat.reduceEqDiff, Int.reduceNeg, Int.reduceAdd, Int.reduceToNat, reduceIte, reduceCtorEq]; rfl) (by simp only [pt8, pt0, pt1, pt2, pt3, pt4, pt5, pt6, pt7]; rfl) ?_) | (refine WO.nil ?_) | (simp only [fl1, fl2, fl3, fl4, fl5, fl6, fl7, fl8, fl9, fl10, Nat.reduceBEq]) | (refine WC.yes rfl ?_) | (refine WC.ret ?_))
        exact ⟨_, rfl, .inr h2⟩
    · exact ⟨m - 1, by omega, _, _, i + 1, rfl, rfl, rfl, rfl, rfl, rfl, rfl, rfl, by omega, hskip i _ hin hps (hgrow _ _ _ hi)⟩
  · have hi' : i = ids.length := by omega
    subst hi'
    repeat' (first | (refine WO.opE (by intro; simp (disch := omega) only [go_sem, zeros, Nat.reduceAdd, Nat.reduceMul, Nat.reduceSub, Nat.reduceLeDiff, Nat.reduceEqDiff, Int.reduceNeg, Int.reduceAdd, Int.reduceToNat, reduceIte, reduceCtorEq]; rfl) (by simp only [pt8, pt0, pt1, pt2, pt3, pt4, pt5, pt6, pt7]; rfl) ?_) | (refine WC.seq ?_) | (refine WC.region ?_) | (refine WO.nil ?_) | (simp only [fl1, fl2, fl3, fl4, fl5, fl6, fl7, fl8, fl9, fl10, Nat.reduceBEq]) | (refine WC.exit ?_) | (refine WC.em2 rfl (fun hp => ?_) (fun hp => ?_) <;> try (exfalso; first | omega | contradiction)))
    exact ⟨_, rfl, .inl ⟨rfl, hi⟩⟩
end Go.Proofs.YtjbdefmhjmkifaaDoor


set_option linter.unusedSimpArgs false
set_option linter.unusedVariables false
namespace Go.Proofs.YtjbdefmhjmkifaaDoor
open Go.Zz
set_option maxRecDepth 100000
set_option maxHeartbeats 1000000
/-! ### Wind -/
def demN (ps : List Pipe) (ids : List Int) (i : Nat) : Int := ((ids.take i).map fun id => (pipeOf ps id).wind).sum
def dem (ps : List Pipe) (ids : List Int) : Int := demN ps ids ids.length
theorem demN_succ {ps : List Pipe} {ids : List Int} {i : Nat} (h : i < ids.length) : demN ps ids (i + 1) = demN ps ids i + (pipeOf ps (ids.getD i 0)).wind := by
  unfold demN
  rw [List.take_add_one, List.getD_eq_getElem?_getD, List.getElem?_eq_getElem h]
  show ((ids.take i ++ [ids[i]]).map _).sum = _
  rw [List.map_append, List.sum_append]
  simp only [List.map_cons, List.map_nil, List.sum_cons, List.sum_nil, Option.getD_some, Int.add_zero]
theorem pipeOf_none {ps : List Pipe} {id : Int} (h : ¬ pos ps id < ps.length) : pipeOf ps id = default := by
  unfold pipeOf nth
  rw [List.getD_eq_getElem?_getD, List.getElem?_eq_none (by omega)]
  rfl
theorem demN_skip {ps : List Pipe} {ids : List Int} {i : Nat} (h : i < ids.length) (hp : ¬ pos ps (ids.getD i 0) < ps.length) : demN ps ids (i + 1) = demN ps ids i := by
  rw [demN_succ h, pipeOf_none hp]
  exact Int.add_zero _
theorem VO.at {ps : List Pipe} {sup tol : Int} (h : VO ps sup tol) (id : Int) : 0 ≤ (pipeOf ps id).wind ∧ (pipeOf ps id).wind ≤ 1000 ∧ 0 ≤ (pipeOf ps id).sag ∧ (pipeOf ps id).sag ≤ 100000000 ∧ 0 ≤ (pipeOf ps id).warm ∧ (pipeOf ps id).warm ≤ 100000000 := by
  by_cases hp : pos ps id < ps.length
  · obtain ⟨h1, h2, h3, h4, h5, h6⟩ := h.1 _ hp
    unfold pipeOf
    omega
  · rw [pipeOf_none hp]
    decide
theorem demN_bnd {ps : List Pipe} {sup tol : Int} (h : VO ps sup tol) (ids : List Int) : ∀ i, i ≤ ids.length → 0 ≤ demN ps ids i ∧ demN ps ids i ≤ 1000 * i
  | 0, _ => by simp [demN]
  | i + 1, hi => by
    have ih := demN_bnd h ids i (by omega)
    have := h.at (ids.getD i 0)
    rw [demN_succ (by omega)]
    omega

theorem lk4 {A l : Hp} {g N : Nat} {c : List AV} {a b d e : Option Blk} (h : A.length = N) : Zz.look (A ++ a :: b :: d :: e :: some ⟨g, c⟩ :: l) (N + 4) g = some c := by subst h; exact look_eq_iff.2 app_g4
theorem over5 {y0 y1 y2 y3 y4 x0 x1 x2 x3 x4 : AV} : over [y0, y1, y2, y3, y4] 0 [x0, x1, x2, x3, x4] = some [x0, x1, x2, x3, x4] := by simp [over]
theorem fov0 {y0 y1 y2 y3 y4 x0 x1 x2 : AV} : over [y0, y1, y2, y3, y4] 0 [x0, x1, x2] = some [x0, x1, x2, y3, y4] := by simp [over]
theorem fov3 {y0 y1 y2 y3 y4 x0 : AV} : over [y0, y1, y2, y3, y4] 3 [x0] = some [y0, y1, y2, x0, y4] := by simp [over]
theorem fov4 {y0 y1 y2 y3 y4 x0 : AV} : over [y0, y1, y2, y3, y4] 4 [x0] = some [y0, y1, y2, y3, x0] := by simp [over]
/-! ### The shift of a pipe -/
theorem mul_bnd {a b A B : Int} (h1 : 0 ≤ a) (h2 : a ≤ A) (h3 : -B ≤ b) (h4 : b ≤ B) : -(A * B) ≤ a * b ∧ a * b ≤ A * B := by
  have hB : 0 ≤ B := by omega
  have e1 := Int.mul_le_mul_of_nonneg_left h4 h1
  have e2 := Int.mul_le_mul_of_nonneg_right h2 hB
  have e3 := Int.mul_le_mul_of_nonneg_left h3 h1
  rw [Int.mul_neg] at e3
  omega
theorem f44 {pv iv : AV} {sup tol l : Int} {p : Pipe} {w : Int} (hp : 0 ≤ p.sag ∧ p.sag ≤ 100000000 ∧ 0 ≤ p.warm ∧ p.warm ≤ 100000000) (hw : -100 ≤ w ∧ w ≤ 100) (hl : 0 ≤ l ∧ l ≤ 1000000000) (hic : iv.cells = some [iv]) :
    WF E7 (.func 44 [] []) [.agg [pv, .int .i64 sup, .int .i64 tol, iv, .int .i64 l], .agg p.cells, .int .i64 w] ⟨[], []⟩ fun y m' => y = .int .i64 (p.warm * w - p.sag * l) := by
  obtain ⟨p1, p2, p3, p4⟩ := hp
  have m1 := mul_bnd p3 p4 hw.1 hw.2
  have m2 := mul_bnd p1 p2 (b := l) (B := 1000000000) (by omega) hl.2
  have hic2 := hic
  unfold AV.cells at hic2
  refine WF.fnE rfl (fn_of Tryd.func44 cir44) (by show 3 ≤ 17; decide) ?_
  unfold ir44
  simp only [padTo, List.replicate, List.nil_append, List.append_nil, List.cons_append]
  repeat' (first | (refine WO.opE (by intro; simp (disch := omega) only [go_sem, Zz.look, Nat.reduceAdd, Nat.reduceMul, Nat.reduceSub, Nat.reduceLeDiff, Nat.reduceEqDiff, Int.reduceNeg, Int.reduceAdd, Int.reduceToNat, reduceIte, reduceCtorEq, Pipe.cells]; rfl) (by simp only [pt8, pt0, pt1, pt2, pt3, pt4, pt5, pt6, pt7]; rfl) ?_) | (refine WC.seq ?_) | (refine WC.region ?_) | (refine WO.nil ?_) | (simp only [fl1, fl2, fl3, fl4, fl5, fl6, fl7, fl8, fl9, fl10, Nat.reduceBEq]) | (refine WC.ret ?_))
  exact ⟨_, rfl, rfl⟩
theorem pure5 {pv iv : AV} {a b c : Int} (h : Zz.pureC pv = true) (h2 : Zz.pureC iv = true) : Zz.pureA (.agg [pv, .int .i64 a, .int .i64 b, iv, .int .i64 c]) = true := by
  show (Zz.pureC pv && (true && (true && (Zz.pureC iv && _)))) = true
  rw [h, h2]
  rfl
theorem by3 {H : Hp} {pv : AV} {a b : Int} (h1 : Zz.byVal H pv = some pv) (h1' : Zz.byVal H pv = Zz.byC H pv) : Zz.byVal H (.agg [pv, .int .i64 a, .int .i64 b]) = some (.agg [pv, .int .i64 a, .int .i64 b]) := by
  rw [h1'] at h1
  simp only [Zz.byVal, Zz.byL, h1]
  rfl
theorem byO {pv : AV} {ps : List Pipe} {H : Hp} {a b : Int} (hq : PpL pv ps) : Zz.byVal H (.agg [pv, .int .i64 a, .int .i64 b]) = some (.agg [pv, .int .i64 a, .int .i64 b]) :=
  by3 (hq.byVal _) (by obtain ⟨_, ⟨rfl, _⟩ | ⟨f, rfl⟩⟩ := hq <;> rfl)
theorem by5 {H : Hp} {pv iv iv' : AV} {a b c : Int} (h1 : Zz.byVal H pv = some pv) (h2 : Zz.byVal H iv = some iv') (h1' : Zz.byVal H pv = Zz.byC H pv) (h2' : Zz.byVal H iv = Zz.byC H iv) : Zz.byVal H (.agg [pv, .int .i64 a, .int .i64 b, iv, .int .i64 c]) = some (.agg [pv, .int .i64 a, .int .i64 b, iv', .int .i64 c]) := by
  rw [h1'] at h1
  rw [h2'] at h2
  simp only [Zz.byVal, Zz.byL, h1, h2]
  rfl
theorem s44x {pv iv so : AV} {sup tol l : Int} {p : Pipe} {w : Int} (hp : 0 ≤ p.sag ∧ p.sag ≤ 100000000 ∧ 0 ≤ p.warm ∧ p.warm ≤ 100000000) (hw : -100 ≤ w ∧ w ≤ 100) (hl : 0 ≤ l ∧ l ≤ 1000000000) (hic : iv.cells = some [iv]) {m : Mem} (hso : Zz.byVal m.heap so = some (.agg [pv, .int .i64 sup, .int .i64 tol, iv, .int .i64 l])) :
    borrowX E7 44 [so, .agg p.cells, .int .i64 w] m = some (.int .i64 (p.warm * w - p.sag * l), m) :=
  borrowX_of (byVals_cons hso (byVals_cons rfl (byVals_cons rfl rfl))) ((f44 hp hw hl hic).mono fun y m' h => by rw [h]; rfl)
theorem s44 {pv iv : AV} {ps : List Pipe} {ids : List Int} {sup tol l : Int} {p : Pipe} {w : Int} (hq : PpL pv ps) (hiv : IntS iv ids) (hp : 0 ≤ p.sag ∧ p.sag ≤ 100000000 ∧ 0 ≤ p.warm ∧ p.warm ≤ 100000000) (hw : -100 ≤ w ∧ w ≤ 100) (hl : 0 ≤ l ∧ l ≤ 1000000000) {m : Mem} :
    borrowX E7 44 [.agg [pv, .int .i64 sup, .int .i64 tol, iv, .int .i64 l], .agg p.cells, .int .i64 w] m = some (.int .i64 (p.warm * w - p.sag * l), m) :=
  s44x hp hw hl hiv.cells (by5 (hq.byVal _) (hiv.byVal _) (by obtain ⟨_, ⟨rfl, _⟩ | ⟨f, rfl⟩⟩ := hq <;> rfl) (by obtain ⟨rfl, _⟩ | ⟨f, rfl⟩ := hiv <;> rfl))

noncomputable def E8 : Env := E7.put 44 (borrowX E7 44)
theorem E8_ok : EnvOk Tryd.prog E8 := Env.put_ok E7_ok (borrowX_ok E7_ok (callable Tryd.func44 (by kernel_rfl)))
theorem f46 {pv iv : AV} {ps : List Pipe} {ids : List Int} {sup tol : Int} {H0 : Hp} {L0 : List (Option ALoop)} (hq : PpL pv ps) (hmax : ps.length < 9223372036854775807) (hrd : ∀ X, RdI (H0 ++ X) iv ids) (hv : VO ps sup tol) (hi : ids.length ≤ 1000000) :
    WF E8 (.func 46 [] []) [.agg [pv, .int .i64 sup, .int .i64 tol], iv] ⟨H0, L0⟩ fun y m' => y = .agg [pv, .int .i64 sup, .int .i64 tol, iv, .int .i64 (max 0 (dem ps ids - sup))] ∧ m'.loops = L0 ++ [none] ∧ ∃ R, m'.heap = H0 ++ R := by
  have hlen := hq.len
  have hcell := SL.cells hq
  have hic := (hrd []).cells
  have hic2 := hic
  unfold AV.cells at hic2
  obtain ⟨_, _, ⟨s0, s1⟩, _⟩ := hv
  have hb := demN_bnd ⟨‹_›, ‹_›, ⟨s0, s1⟩, ‹_›⟩ ids
  refine WF.fnE rfl (fn_of Tryd.func46 cir46) (by show 2 ≤ 23; decide) ?_
  unfold ir46
  simp only [padTo, List.replicate, List.nil_append, List.append_nil, List.cons_append]
  repeat' (first | (refine WO.opE (by intro; simp (disch := omega) only [go_sem, zeros, List.append_assoc, List.length_append, ov_one0, Nat.reduceAdd, Nat.reduceMul, Nat.reduceSub, Nat.reduceLeDiff, Nat.reduceEqDiff, Int.reduceNeg, Int.reduceAdd, Int.reduceToNat, reduceIte, reduceCtorEq, List.map_cons, List.map_nil, lk0, lk1, lk2, st0, st1, st2]; rfl) (by simp only [pt8, pt0, pt1, pt2, pt3, pt4, pt5, pt6, pt7]; rfl) ?_) | (refine WO.opN (by intro; simp (disch := omega) only [go_sem, zeros, List.append_assoc, List.length_append, ov_one0, Nat.reduceAdd, Nat.reduceMul, Nat.reduceSub, Nat.reduceLeDiff, Nat.reduceEqDiff, Int.reduceNeg, Int.reduceAdd, Int.reduceToNat, reduceIte, reduceCtorEq, List.map_cons, List.map_nil, lk0, lk1, lk2, st0, st1, st2]; rfl) ?_) | (refine WO.callE rfl rfl (f39 (E := E8) rfl (fn_of Tryd.func39 cir39) (iv := iv) hic (N := H0.length + 3) (by simp)) (by simp only [pt8, pt0, pt1, pt2, pt3, pt4, pt5, pt6, pt7]; rfl) ?_) | (refine WC.seq ?_) | (refine WC.region ?_) | (refine WO.nil ?_) | (simp only [fl1, fl2, fl3, fl4, fl5, fl6, fl7, fl8, fl9, fl10, Nat.reduceBEq]) | (refine WC.block ?_))
  obtain ⟨A, hA⟩ : ∃ A : Int → Hp, ∀ s, A s = H0 ++ [some ⟨0, [pv, .int .i64 sup, .int .i64 tol]⟩, some ⟨0, [.snil, .int .i64 0, .int .i64 0, .snil, .int .i64 0]⟩, some ⟨0, [.int .i64 s]⟩, some ⟨0, [pv, .int .i64 sup, .int .i64 tol]⟩, some ⟨0, [iv]⟩] := ⟨_, fun _ => rfl⟩
  have hl : ∀ s, (A s).length = H0.length + 5 := fun s => by rw [hA]; simp
  have e2 : ∀ s X, Zz.look (A s ++ X) (H0.length + 2) 0 = some [.int .i64 s] := fun s X => by rw [hA, List.append_assoc]; exact lk2 rfl
  have u2 : ∀ s s' X, (A s ++ X).set (H0.length + 2) (some ⟨0, [.int .i64 s']⟩) = A s' ++ X := fun s s' X => by rw [hA, hA, List.append_assoc, List.append_assoc]; exact st2 rfl
  have e3 : ∀ s X, Zz.look (A s ++ X) (H0.length + 3) 0 = some [pv, .int .i64 sup, .int .i64 tol] := fun s X => by rw [hA, List.append_assoc]; exact lk3 rfl
  have e4 : ∀ s X, Zz.look (A s ++ X) (H0.length + 3 + 1) 0 = some [iv] := fun s X => by rw [hA, List.append_assoc]; exact lk4 rfl
  have h00 : H0 ++ [some ⟨0, [pv, .int .i64 sup, .int .i64 tol]⟩, some ⟨0, [.snil, .int .i64 0, .int .i64 0, .snil, .int .i64 0]⟩, some ⟨0, [.int .i64 0]⟩] ++ [some ⟨0, [pv, .int .i64 sup, .int .i64 tol]⟩, some ⟨0, [iv]⟩] = A (demN ps ids 0) ++ [] := by rw [hA]; simp [demN]
  refine WC.rangeFuncN rfl ((f70 (E := E8) (sup := sup) (tol := tol) (qi := H0.length + 3 + 1) (qo := H0.length + 3) (iv := iv) (ids := ids) rfl (fn_of Tryd.func70 cir70) rfl hq hmax (by omega) (fun i H => ∃ R, H = A (demN ps ids i) ++ R) (fun _ => False) ⟨[], h00⟩ ?_ ?_ ?_ ?_).mono ?_)
  · rintro i H ⟨R, rfl⟩
    exact ⟨by rw [hA, List.append_assoc]; exact hrd _, e4 _ _, e3 _ _⟩
  · rintro i H b ⟨R, rfl⟩
    exact ⟨R ++ [b], List.append_assoc ..⟩
  · rintro i H hi1 hi2 ⟨R, rfl⟩
    rw [demN_skip hi1 hi2]
    exact ⟨R, rfl⟩
  · rintro i H hi1 hi2 ⟨R, rfl⟩
    have b1 := hb i (by omega)
    have b2 := hb (i + 1) (by omega)
    rw [demN_succ hi1] at b2
    refine WF.yieldN app_g0 rfl ?_
    generalize hL1 : (L0 ++ [_] : List (Option ALoop)).set _ _ = L1
    clear hL1
    simp only [setAll, pt8, pt0, pt1, pt2, pt3, pt4, pt5, pt6, pt7]
    repeat' (first | (refine WO.opE (by intro; simp (disch := first | omega | (simp only [hl])) only [go_sem, zeros, List.append_assoc, List.length_append, Nat.reduceAdd, Nat.reduceMul, Nat.reduceSub, Nat.reduceLeDiff, Nat.reduceEqDiff, Int.reduceNeg, Int.reduceAdd, Int.reduceToNat, reduceIte, reduceCtorEq, Pipe.cells, over10, hl, e2, u2, lkr00, str00, ov_one0]; rfl) (by simp only [pt8, pt0, pt1, pt2, pt3, pt4, pt5, pt6, pt7]; rfl) ?_) | (refine WO.opN (by intro; simp (disch := first | omega | (simp only [hl])) only [go_sem, zeros, List.append_assoc, List.length_append, Nat.reduceAdd, Nat.reduceMul, Nat.reduceSub, Nat.reduceLeDiff, Nat.reduceEqDiff, Int.reduceNeg, Int.reduceAdd, Int.reduceToNat, reduceIte, reduceCtorEq, Pipe.cells, over10, hl, e2, u2, lkr00, str00, ov_one0]; rfl) ?_) | (refine WC.region ?_) | (refine WO.nil ?_) | (simp only [fl1, fl2, fl3, fl4, fl5, fl6, fl7, fl8, fl9, fl10, Nat.reduceBEq]))
    refine ⟨trivial, rfl, ?_⟩
    repeat' (first | (refine WO.opE (by intro; simp (disch := first | omega | (simp only [hl])) only [go_sem, zeros, List.append_assoc, List.length_append, Nat.reduceAdd, Nat.reduceMul, Nat.reduceSub, Nat.reduceLeDiff, Nat.reduceEqDiff, Int.reduceNeg, Int.reduceAdd, Int.reduceToNat, reduceIte, reduceCtorEq, Pipe.cells, over10, hl, e2, u2, lkr00, str00, ov_one0]; rfl) (by simp only [pt8, pt0, pt1, pt2, pt3, pt4, pt5, pt6, pt7]; rfl) ?_) | (refine WO.opN (by intro; simp (disch := first | omega | (simp only [hl])) only [go_sem, zeros, List.append_assoc, List.length_append, Nat.reduceAdd, Nat.reduceMul, Nat.reduceSub, Nat.reduceLeDiff, Nat.reduceEqDiff, Int.reduceNeg, Int.reduceAdd, Int.reduceToNat, reduceIte, reduceCtorEq, Pipe.cells, over10, hl, e2, u2, lkr00, str00, ov_one0]; rfl) ?_) | (refine WC.region ?_) | (refine WO.nil ?_) | (simp only [fl1, fl2, fl3, fl4, fl5, fl6, fl7, fl8, fl9, fl10, Nat.reduceBEq]) | (refine WC.block ?_))
    exact ⟨trivial, by first | rfl | trivial, .inl ⟨trivial, by first | rfl | trivial, _, by rw [demN_succ hi1]⟩⟩
  · rintro v m' (⟨h1, R, h2⟩ | h)
    · refine ⟨h1, ?_⟩
      rw [h2, hA]
      have b3 := hb ids.length (Nat.le_refl _)
      have e : demN ps ids ids.length = dem ps ids := rfl
      rw [e] at b3 ⊢
      repeat' (first | (refine WO.opE (by intro; simp (disch := omega) only [go_sem, zeros, List.append_assoc, List.length_append, ov_one0, Nat.reduceAdd, Nat.reduceMul, Nat.reduceSub, Nat.reduceLeDiff, Nat.reduceEqDiff, Int.reduceNeg, Int.reduceAdd, Int.reduceToNat, reduceIte, reduceCtorEq, fillP, hic2, Option.bind_eq_bind, over5, fov0, fov3, fov4, lk0, lk1, lk2, st0, st1, st2]; rfl) (by simp only [pt8, pt0, pt1, pt2, pt3, pt4, pt5, pt6, pt7]; rfl) ?_) | (refine WO.opN (by intro; simp (disch := omega) only [go_sem, zeros, List.append_assoc, List.length_append, ov_one0, Nat.reduceAdd, Nat.reduceMul, Nat.reduceSub, Nat.reduceLeDiff, Nat.reduceEqDiff, Int.reduceNeg, Int.reduceAdd, Int.reduceToNat, reduceIte, reduceCtorEq, fillP, hic2, Option.bind_eq_bind, over5, fov0, fov3, fov4, lk0, lk1, lk2, st0, st1, st2]; rfl) ?_) | (refine WC.seq ?_) | (refine WC.region ?_) | (refine WO.nil ?_) | (simp only [fl1, fl2, fl3, fl4, fl5, fl6, fl7, fl8, fl9, fl10, Nat.reduceBEq]) | (refine WC.ret ?_))
      refine ⟨_, by simp only [evRes, gt8, gt0, gt1, gt2, gt3, gt4, gt5, gt6, gt7, lk1 rfl, st1 rfl, Option.bind_some]; rfl, rfl, rfl, _, rfl⟩
    · exact h.elim
theorem ppL_resC {x : AV} {ps : List Pipe} (h : PpL x ps) (H : Hp) : Zz.resC H x = some x := by
  have := h.pureC
  obtain ⟨_, ⟨rfl, _⟩ | ⟨f, rfl⟩⟩ := h
  · rfl
  · show (if _ then _ else _) = _
    exact if_pos this
theorem resC_int {H : Hp} {k : IntKind} {n : Int} : Zz.resC H (.int k n) = some (.int k n) := rfl
theorem res5 {H : Hp} {pv iv : AV} {a b c : Int} (h1 : Zz.resC H pv = some pv) (h2 : Zz.resC H iv = some iv) : resV H (.agg [pv, .int .i64 a, .int .i64 b, iv, .int .i64 c]) = some (.agg [pv, .int .i64 a, .int .i64 b, iv, .int .i64 c]) := by
  simp only [resV, resA, resL, h1, h2, resC_int]
theorem s46 {pv iv : AV} {ps : List Pipe} {ids : List Int} {sup tol : Int} (hq : PpL pv ps) (hmax : ps.length < 9223372036854775807) (hiv : IntS iv ids) (hv : VO ps sup tol) (hi : ids.length ≤ 1000000) {m : Mem} :
    borrowE E8 46 [.agg [pv, .int .i64 sup, .int .i64 tol], iv] m = some (.agg [pv, .int .i64 sup, .int .i64 tol, iv, .int .i64 (max 0 (dem ps ids - sup))], m) :=
  borrowE_of (pures_cons (pure3 hq.pureC) (pures_cons hiv.pureA rfl)) ((f46 (H0 := []) (L0 := []) hq hmax (fun X => intS_rd hiv _) hv hi).mono fun y m' h => by
    rw [h.1]
    exact res5 (ppL_resC hq _) (hiv.resC _))

noncomputable def E9 : Env := E8.put 46 (borrowE E8 46)
theorem E9_ok : EnvOk Tryd.prog E9 := Env.put_ok E8_ok (borrowE_ok E8_ok (callable Tryd.func46 (by kernel_rfl)))
end Go.Proofs.YtjbdefmhjmkifaaDoor

