import Derived.Test.YtndaljjljmmlcaaAbsH
import Derived.Test.YtndaljjljmmlcaaIr16
import Derived.Test.YtndaljjljmmlcaaEx

set_option linter.unusedSimpArgs false
set_option linter.unusedVariables false
namespace Go.Proofs.Ytndaljjljmmlcaa
open Go.Zz

/-- The functions' texts. -/
noncomputable def G0 : Env := { fn := fun g => (Try.prog.funcs[g]?).bind (cFunc Try.prog), spec := fun _ => none }
theorem G0_ok : EnvOk Try.prog G0 := by
  refine ⟨fun g ifn h => ?_, fun g S h => by cases h⟩
  simp only [G0, Option.bind_eq_some_iff] at h
  exact h
theorem fn_of {g : Nat} {f : Func} {i : IFunc} (hf : Try.prog.funcs[g]? = some f) (hc : cFunc Try.prog f = some i) : G0.fn g = some i := by
  simp only [G0, hf, Option.bind_some, hc]
theorem callable {g : Nat} {f : Func} (hf : Try.prog.funcs[g]? = some f) (h : (f.name != "runtime.NumGoroutine" && f.body.isSome) = true) : Callable Try.prog g := by
  simp only [Bool.and_eq_true, bne_iff_ne, ne_eq] at h
  exact ⟨f, hf, h.1, h.2⟩
/-- A reading. -/
structure Rg where
  a : Int
  b : Int
  lo : Int
  hi : Int
  deriving Inhabited, DecidableEq

def Rg.cells (r : Rg) : List AV := [.int .i64 r.a, .int .i64 r.b, .int .i64 r.lo, .int .i64 r.hi]
def RdL (x : AV) (rs : List Rg) : Prop := SL 4 x (rs.map Rg.cells)
def tail4 (rs : List Rg) (i : Nat) : List AV := ((rs.map Rg.cells).drop (i + 1)).flatten
theorem RdL.len {x : AV} {rs : List Rg} (h : RdL x rs) : slen x = some rs.length := by
  have := SL.len h
  rwa [List.length_map] at this
def nth (rs : List Rg) (i : Nat) : Rg := rs.getD i default
theorem nth_lt {rs : List Rg} {i : Nat} (h : i < rs.length) : nth rs i = rs[i] := by simp [nth, h]
theorem RdL.at {x : AV} {rs : List Rg} (h : RdL x rs) {i : Int} (h0 : 0 ≤ i) (hi : i < rs.length) : indexAddrAV 4 x (.int .i64 i) = some (.pval (.int .i64 (nth rs i.toNat).a :: .int .i64 (nth rs i.toNat).b :: .int .i64 (nth rs i.toNat).lo :: .int .i64 (nth rs i.toNat).hi :: tail4 rs i.toNat)) := by
  have hi' : i.toNat < rs.length := by omega
  have := SL.at h (i := i.toNat) (by simpa using hi')
  have e : i = (i.toNat : Int) := by omega
  rw [nth_lt hi']
  conv => lhs; rw [e]
  simpa [Rg.cells, tail4] using this
theorem cut4 {x0 x1 x2 x3 : AV} {l : List AV} : cut (x0 :: x1 :: x2 :: x3 :: l) 0 4 = some [x0, x1, x2, x3] := by simp [cut]
theorem RdL.byVal {x : AV} {rs : List Rg} (h : RdL x rs) (H : Hp) : Zz.byVal H x = some x := SL.byVal h (fun c hc => by
  obtain ⟨r, _, rfl⟩ := List.mem_map.1 hc
  rfl) H
theorem RdL.pureC {x : AV} {rs : List Rg} (h : RdL x rs) : Zz.pureC x = true := by
  have := h.byVal []
  obtain ⟨_, ⟨rfl, _⟩ | ⟨f, rfl⟩⟩ := h
  · rfl
  · simp only [Zz.byVal, Zz.byC] at this
    split at this
    · assumption
    · cases this

theorem RdL.pureA {x : AV} {rs : List Rg} (h : RdL x rs) : Zz.pureA x = true := by
  have := h.pureC
  obtain ⟨_, ⟨rfl, _⟩ | ⟨f, rfl⟩⟩ := h <;> exact this

def okS (lo hi : Int) : Bool := decide (-100000000000000 ≤ lo ∧ lo ≤ hi ∧ hi ≤ 100000000000000)

def okR (n : Int) (r : Rg) : Prop := 0 ≤ r.a ∧ r.a < n ∧ 0 ≤ r.b ∧ r.b < n ∧ r.a ≠ r.b ∧ -100000000000000 ≤ r.lo ∧ r.lo ≤ r.hi ∧ r.hi ≤ 100000000000000
/-- Valid readings. -/
def VL (n : Int) (rs : List Rg) : Prop := 1 ≤ n ∧ n ≤ 40 ∧ rs.length ≤ 200 ∧ ∀ r ∈ rs, okR n r
instance (n : Int) (r : Rg) : Decidable (okR n r) := by unfold okR; infer_instance
instance (n : Int) (rs : List Rg) : Decidable (VL n rs) := by unfold VL; infer_instance
theorem VL.at {n : Int} {rs : List Rg} (h : VL n rs) {i : Nat} (hi : i < rs.length) : okR n (nth rs i) := by
  rw [nth_lt hi]
  exact h.2.2.2 _ (List.getElem_mem hi)
theorem f24 {lo hi : Int} : WF G0 (.func 24 [] []) [.agg [.int .i64 lo, .int .i64 hi]] ⟨[], []⟩ fun y m' => y = .bool (decide (-100000000000000 ≤ lo ∧ lo ≤ hi ∧ hi ≤ 100000000000000)) := by
  refine WF.fnE rfl (fn_of Try.func24 cir24) (by show 1 ≤ 18; decide) ?_
  unfold ir24
  simp only [padTo, List.replicate, List.nil_append, List.append_nil, List.cons_append]
  repeat' (first | (refine WO.yes rfl ?_) | (refine WO.noE rfl (by simp only [pt8, pt0, pt1, pt2, pt3, pt4, pt5, pt6, pt7]; rfl) ?_) | (refine WO.opE (by intro; simp (disch := omega) only [go_sem, Zz.look, Zz.over, Zz.cut, Nat.reduceAdd, Nat.reduceMul, Nat.reduceSub, Nat.reduceLeDiff, Nat.reduceEqDiff, Int.reduceNeg, Int.reduceAdd, Int.reduceToNat, reduceIte, reduceCtorEq, Int.reduceNeg, Int.reduceAdd]; rfl) (by simp only [pt8, pt0, pt1, pt2, pt3, pt4, pt5, pt6, pt7]; rfl) ?_) | (refine WO.opN (by intro; simp (disch := omega) only [go_sem, Zz.look, Zz.over, Zz.cut, Nat.reduceAdd, Nat.reduceMul, Nat.reduceSub, Nat.reduceLeDiff, Nat.reduceEqDiff, Int.reduceNeg, Int.reduceAdd, Int.reduceToNat, reduceIte, reduceCtorEq, Int.reduceNeg, Int.reduceAdd]; rfl) ?_) | (refine WO.opE (by intro; exact ev_lenS (by simp only [go_sem]; first | rfl | assumption)) (by simp only [pt8, pt0, pt1, pt2, pt3, pt4, pt5, pt6, pt7]; rfl) ?_) | (refine WC.seq ?_) | (refine WC.region ?_) | (refine WO.nil ?_) | (simp only [fl1, fl2, fl3, fl4, fl5, fl6, fl7, fl8, fl9, fl10, Nat.reduceBEq]) | (refine WC.calm rfl ?_) | (refine WC.drawT ?_) | (refine WC.yes rfl ?_) | (refine WC.no rfl ?_) | (refine WC.skip ?_) | (refine WC.exit ?_) | (refine WC.ret ?_) | (refine WC.block ?_) | (refine WO.em2 rfl (by intro hp; simp only [hp, decide_true]; rfl) (by intro hp; simp only [hp, decide_false]; rfl) (fun hp => ?_) (fun hp => ?_) <;> try (exfalso; first | omega | contradiction)) | (refine WC.em2 rfl (fun hp => ?_) (fun hp => ?_) <;> try (exfalso; first | omega | contradiction)))
  all_goals refine ⟨_, rfl, ?_⟩
  all_goals simp only [oneRes, St.mem, AV.bool.injEq, gt8, gt0, gt1, gt2, gt3, gt4, gt5, gt6, gt7]
  all_goals first
    | rfl
    | (symm; rw [decide_eq_true_iff]; omega)
    | (symm; rw [decide_eq_false_iff_not]; omega)
    | (rw [decide_eq_decide]; omega)

theorem s24 {lo hi : Int} {m : Mem} : borrowE G0 24 [.agg [.int .i64 lo, .int .i64 hi]] m = some (.bool (decide (-100000000000000 ≤ lo ∧ lo ≤ hi ∧ hi ≤ 100000000000000)), m) := borrowE_of rfl (f24.mono fun y m' h => by rw [h]; rfl)

noncomputable def E1 : Env := G0.add 24
theorem E1_ok : EnvOk Try.prog E1 := Env.add_ok G0_ok (callable Try.func24 (by kernel_rfl))

theorem f27 {lo hi : Int} : WF E1 (.func 27 [] []) [.agg [.int .i64 lo, .int .i64 hi]] ⟨[], []⟩ fun y m' => y = .bool (decide (-100000000000000 ≤ lo ∧ lo ≤ hi ∧ hi ≤ 100000000000000)) := by
  refine WF.fnE rfl (fn_of Try.func27 cir27) (by show 1 ≤ 18; decide) ?_
  unfold ir27
  simp only [padTo, List.replicate, List.nil_append, List.append_nil, List.cons_append]
  repeat' (first | (refine WO.yes rfl ?_) | (refine WO.noE rfl (by simp only [pt8, pt0, pt1, pt2, pt3, pt4, pt5, pt6, pt7]; rfl) ?_) | (refine WO.opE (by intro; simp (disch := omega) only [go_sem, Zz.look, Zz.over, Zz.cut, Nat.reduceAdd, Nat.reduceMul, Nat.reduceSub, Nat.reduceLeDiff, Nat.reduceEqDiff, Int.reduceNeg, Int.reduceAdd, Int.reduceToNat, reduceIte, reduceCtorEq, Int.reduceNeg, Int.reduceAdd]; rfl) (by simp only [pt8, pt0, pt1, pt2, pt3, pt4, pt5, pt6, pt7]; rfl) ?_) | (refine WO.opN (by intro; simp (disch := omega) only [go_sem, Zz.look, Zz.over, Zz.cut, Nat.reduceAdd, Nat.reduceMul, Nat.reduceSub, Nat.reduceLeDiff, Nat.reduceEqDiff, Int.reduceNeg, Int.reduceAdd, Int.reduceToNat, reduceIte, reduceCtorEq, Int.reduceNeg, Int.reduceAdd]; rfl) ?_) | (refine WO.opE (by intro; exact ev_lenS (by simp only [go_sem]; first | rfl | assumption)) (by simp only [pt8, pt0, pt1, pt2, pt3, pt4, pt5, pt6, pt7]; rfl) ?_) | (refine WC.seq ?_) | (refine WC.region ?_) | (refine WO.nil ?_) | (simp only [fl1, fl2, fl3, fl4, fl5, fl6, fl7, fl8, fl9, fl10, Nat.reduceBEq]) | (refine WC.calm rfl ?_) | (refine WC.drawT ?_) | (refine WC.yes rfl ?_) | (refine WC.no rfl ?_) | (refine WC.skip ?_) | (refine WC.exit ?_) | (refine WC.ret ?_) | (refine WC.block ?_) | (refine WO.em2 rfl (by intro hp; simp only [hp, decide_true]; rfl) (by intro hp; simp only [hp, decide_false]; rfl) (fun hp => ?_) (fun hp => ?_) <;> try (exfalso; first | omega | contradiction)) | (refine WC.em2 rfl (fun hp => ?_) (fun hp => ?_) <;> try (exfalso; first | omega | contradiction)))
  all_goals refine ⟨_, rfl, ?_⟩
  all_goals simp only [oneRes, St.mem, AV.bool.injEq, gt8, gt0, gt1, gt2, gt3, gt4, gt5, gt6, gt7]
  all_goals first
    | rfl
    | (symm; rw [decide_eq_true_iff]; omega)
    | (symm; rw [decide_eq_false_iff_not]; omega)
    | (rw [decide_eq_decide]; omega)

theorem s27 {lo hi : Int} {m : Mem} : borrowE E1 27 [.agg [.int .i64 lo, .int .i64 hi]] m = some (.bool (decide (-100000000000000 ≤ lo ∧ lo ≤ hi ∧ hi ≤ 100000000000000)), m) := borrowE_of rfl (f27.mono fun y m' h => by rw [h]; rfl)

noncomputable def E2 : Env := E1.add 27
theorem E2_ok : EnvOk Try.prog E2 := Env.add_ok E1_ok (callable Try.func27 (by kernel_rfl))

/-- turned -/
theorem f39 {a b lo hi : Int} (h1 : -100000000000000 ≤ lo) (h2 : lo ≤ 100000000000000) : WF E2 (.func 39 [] []) [.agg [.int .i64 a, .int .i64 b, .int .i64 lo, .int .i64 hi]] ⟨[], []⟩ fun y m' => y = .agg [.int .i64 b, .int .i64 a, .int .i64 (0 - lo)] := by
  refine WF.fnE rfl (fn_of Try.func39 cir39) (by show 1 ≤ 11; decide) ?_
  unfold ir39
  simp only [padTo, List.replicate, List.nil_append, List.append_nil, List.cons_append]
  repeat' (first | (refine WO.yes rfl ?_) | (refine WO.noE rfl (by simp only [pt8, pt0, pt1, pt2, pt3, pt4, pt5, pt6, pt7]; rfl) ?_) | (refine WO.opE (by intro; simp (disch := omega) only [go_sem, Zz.look, Zz.over, Zz.cut, Nat.reduceAdd, Nat.reduceMul, Nat.reduceSub, Nat.reduceLeDiff, Nat.reduceEqDiff, Int.reduceNeg, Int.reduceAdd, Int.reduceToNat, reduceIte, reduceCtorEq]; rfl) (by simp only [pt8, pt0, pt1, pt2, pt3, pt4, pt5, pt6, pt7]; rfl) ?_) | (refine WO.opN (by intro; simp (disch := omega) only [go_sem, Zz.look, Zz.over, Zz.cut, Nat.reduceAdd, Nat.reduceMul, Nat.reduceSub, Nat.reduceLeDiff, Nat.reduceEqDiff, Int.reduceNeg, Int.reduceAdd, Int.reduceToNat, reduceIte, reduceCtorEq]; rfl) ?_) | (refine WO.opE (by intro; exact ev_lenS (by simp only [go_sem]; first | rfl | assumption)) (by simp only [pt8, pt0, pt1, pt2, pt3, pt4, pt5, pt6, pt7]; rfl) ?_) | (refine WC.seq ?_) | (refine WC.region ?_) | (refine WO.nil ?_) | (simp only [fl1, fl2, fl3, fl4, fl5, fl6, fl7, fl8, fl9, fl10, Nat.reduceBEq]) | (refine WC.calm rfl ?_) | (refine WC.drawT ?_) | (refine WC.yes rfl ?_) | (refine WC.no rfl ?_) | (refine WC.skip ?_) | (refine WC.exit ?_) | (refine WC.ret ?_) | (refine WC.block ?_) | (refine WO.em2 rfl (by intro hp; simp only [hp, decide_true]; rfl) (by intro hp; simp only [hp, decide_false]; rfl) (fun hp => ?_) (fun hp => ?_) <;> try (exfalso; first | omega | contradiction)) | (refine WC.em2 rfl (fun hp => ?_) (fun hp => ?_) <;> try (exfalso; first | omega | contradiction)))
  exact ⟨_, rfl, rfl⟩
theorem s39 {a b lo hi : Int} (h1 : -100000000000000 ≤ lo) (h2 : lo ≤ 100000000000000) {m : Mem} : borrowE E2 39 [.agg [.int .i64 a, .int .i64 b, .int .i64 lo, .int .i64 hi]] m = some (.agg [.int .i64 b, .int .i64 a, .int .i64 (0 - lo)], m) := borrowE_of rfl ((f39 h1 h2).mono fun y m' h => by rw [h]; rfl)

noncomputable def E3 : Env := E2.add 39
theorem E3_ok : EnvOk Try.prog E3 := Env.add_ok E2_ok (callable Try.func39 (by kernel_rfl))

/-- A step's number. -/
def Num (rs : List Rg) (s : Int) : Prop := s ≠ 0 ∧ -(rs.length : Int) ≤ s ∧ s ≤ rs.length
def rdOf (rs : List Rg) (s : Int) : Rg := if s < 0 then nth rs (-s - 1).toNat else nth rs (s - 1).toNat
def stA (rs : List Rg) (s : Int) : Int := if s < 0 then (rdOf rs s).b else (rdOf rs s).a
def stB (rs : List Rg) (s : Int) : Int := if s < 0 then (rdOf rs s).a else (rdOf rs s).b
def stW (rs : List Rg) (s : Int) : Int := if s < 0 then -(rdOf rs s).lo else (rdOf rs s).hi

theorem f35 {n : Int} {rs : List Rg} (hv : VL n rs) {l : AV} (hl : RdL l rs) {s : Int} (hs : Num rs s) : WF E3 (.func 35 [] []) [l, .int .i64 s] ⟨[], []⟩ fun y m' => y = .agg [.int .i64 (stA rs s), .int .i64 (stB rs s), .int .i64 (stW rs s)] := by
  obtain ⟨g0, g1, g2⟩ := hs
  have hlen := hv.2.2.1
  have e1 : (-s - 1).toNat = (0 - s - 1).toNat := by omega
  have hr : s < 0 → -100000000000000 ≤ (nth rs (0 - s - 1).toNat).lo ∧ (nth rs (0 - s - 1).toNat).lo ≤ 100000000000000 := fun h => by
    obtain ⟨o1, o2, o3, o4, o5, o6, o7, o8⟩ := hv.at (i := (0 - s - 1).toNat) (by omega)
    exact ⟨o6, Int.le_trans o7 o8⟩
  refine WF.fnE rfl (fn_of Try.func35 cir35) (by show 2 ≤ 27; decide) ?_
  unfold ir35
  simp only [padTo, List.replicate, List.nil_append, List.append_nil, List.cons_append]
  repeat' (first | (refine WO.yes rfl ?_) | (refine WO.noE rfl (by simp only [pt8, pt0, pt1, pt2, pt3, pt4, pt5, pt6, pt7]; rfl) ?_) | (refine WO.opE (by intro; simp (disch := omega) only [go_sem, Zz.look, Zz.over, Zz.cut, Nat.reduceAdd, Nat.reduceMul, Nat.reduceSub, Nat.reduceLeDiff, Nat.reduceEqDiff, Int.reduceNeg, Int.reduceAdd, Int.reduceToNat, reduceIte, reduceCtorEq, hl.at, cut4]; rfl) (by simp only [pt8, pt0, pt1, pt2, pt3, pt4, pt5, pt6, pt7]; rfl) ?_) | (refine WO.opN (by intro; simp (disch := omega) only [go_sem, Zz.look, Zz.over, Zz.cut, Nat.reduceAdd, Nat.reduceMul, Nat.reduceSub, Nat.reduceLeDiff, Nat.reduceEqDiff, Int.reduceNeg, Int.reduceAdd, Int.reduceToNat, reduceIte, reduceCtorEq, hl.at, cut4]; rfl) ?_) | (refine WO.opE (by intro; exact ev_lenS (by simp only [go_sem]; first | rfl | assumption)) (by simp only [pt8, pt0, pt1, pt2, pt3, pt4, pt5, pt6, pt7]; rfl) ?_) | (refine WO.specE rfl rfl (s39 (by have := hr hp; omega) (by have := hr hp; omega)) (by simp only [pt8, pt0, pt1, pt2, pt3, pt4, pt5, pt6, pt7]; rfl) ?_) | (refine WC.seq ?_) | (refine WC.region ?_) | (refine WO.nil ?_) | (simp only [fl1, fl2, fl3, fl4, fl5, fl6, fl7, fl8, fl9, fl10, Nat.reduceBEq]) | (refine WC.calm rfl ?_) | (refine WC.drawT ?_) | (refine WC.yes rfl ?_) | (refine WC.no rfl ?_) | (refine WC.skip ?_) | (refine WC.exit ?_) | (refine WC.ret ?_) | (refine WC.block ?_) | (refine WO.em2 rfl (by intro hp; simp only [hp, decide_true]; rfl) (by intro hp; simp only [hp, decide_false]; rfl) (fun hp => ?_) (fun hp => ?_) <;> try (exfalso; first | omega | contradiction)) | (refine WC.em2 rfl (fun hp => ?_) (fun hp => ?_) <;> try (exfalso; first | omega | contradiction)))

  all_goals simp only [stA, stB, stW, rdOf, hp, if_true, if_false, e1]
  all_goals (try (rw [← Int.zero_sub]))
  all_goals exact ⟨_, rfl, rfl⟩
end Go.Proofs.Ytndaljjljmmlcaa


set_option linter.unusedSimpArgs false
set_option linter.unusedVariables false
namespace Go.Proofs.Ytndaljjljmmlcaa
open Go.Zz


theorem f12 {n : Int} {rs : List Rg} {l : AV} (hl : RdL l rs) (hmax : rs.length < 9223372036854775808) : WF E3 (.func 12 [] []) [.int .i64 n, l] ⟨[], []⟩ fun y m' => y = .bool (decide (VL n rs)) := by
  have hlen := hl.len
  refine WF.fnE rfl (fn_of Try.func12 cir12) (by show 2 ≤ 56; decide) ?_
  unfold ir12
  simp only [padTo, List.replicate, List.nil_append, List.append_nil, List.cons_append]
  repeat' (first | (refine WO.yes rfl ?_) | (refine WO.noE rfl (by simp only [pt8, pt0, pt1, pt2, pt3, pt4, pt5, pt6, pt7]; rfl) ?_) | (refine WO.opE (by intro; simp (disch := omega) only [go_sem, Zz.look, Zz.over, Zz.cut, Nat.reduceAdd, Nat.reduceMul, Nat.reduceSub, Nat.reduceLeDiff, Nat.reduceEqDiff, Int.reduceNeg, Int.reduceAdd, Int.reduceToNat, reduceIte, reduceCtorEq]; rfl) (by simp only [pt8, pt0, pt1, pt2, pt3, pt4, pt5, pt6, pt7]; rfl) ?_) | (refine WO.opN (by intro; simp (disch := omega) only [go_sem, Zz.look, Zz.over, Zz.cut, Nat.reduceAdd, Nat.reduceMul, Nat.reduceSub, Nat.reduceLeDiff, Nat.reduceEqDiff, Int.reduceNeg, Int.reduceAdd, Int.reduceToNat, reduceIte, reduceCtorEq]; rfl) ?_) | (refine WO.opE (by intro; exact ev_lenS (by simp only [go_sem]; first | rfl | assumption)) (by simp only [pt8, pt0, pt1, pt2, pt3, pt4, pt5, pt6, pt7]; rfl) ?_) | (refine WO.opE (by intro; exact ev_lenS (by simp only [go_sem]; exact hlen)) (by simp only [pt8, pt0, pt1, pt2, pt3, pt4, pt5, pt6, pt7]; rfl) ?_) | (refine WC.seq ?_) | (refine WC.region ?_) | (refine WO.nil ?_) | (simp only [fl1, fl2, fl3, fl4, fl5, fl6, fl7, fl8, fl9, fl10, Nat.reduceBEq]) | (refine WC.calm rfl ?_) | (refine WC.drawT ?_) | (refine WC.yes rfl ?_) | (refine WC.no rfl ?_) | (refine WC.skip ?_) | (refine WC.exit ?_) | (refine WC.ret ?_) | (refine WC.block ?_) | (refine WO.em2 rfl (by intro hp; simp only [hp, decide_true]; rfl) (by intro hp; simp only [hp, decide_false]; rfl) (fun hp => ?_) (fun hp => ?_) <;> try (exfalso; first | omega | contradiction)) | (refine WC.em2 rfl (fun hp => ?_) (fun hp => ?_) <;> try (exfalso; first | omega | contradiction)))
  case refine_1 => exact ⟨_, rfl, by simp only [oneRes, gt8, gt0, gt1, gt2, gt3, gt4, gt5, gt6, gt7, AV.bool.injEq]; symm; rw [decide_eq_false_iff_not]; intro h; have := h.1; omega⟩
  case refine_2.refine_1 => exact ⟨_, rfl, by simp only [oneRes, gt8, gt0, gt1, gt2, gt3, gt4, gt5, gt6, gt7, AV.bool.injEq]; symm; rw [decide_eq_false_iff_not]; intro h; have := h.2.1; omega⟩
  case refine_2.refine_2.refine_1 => exact ⟨_, rfl, by simp only [oneRes, gt8, gt0, gt1, gt2, gt3, gt4, gt5, gt6, gt7, AV.bool.injEq]; symm; rw [decide_eq_false_iff_not]; intro h; have := h.2.2.1; omega⟩
  refine WC.loopI (fun m s => ∃ T H i, s = ⟨T, H, []⟩ ∧ T.length = 56 ∧ gt T 0 = .int .i64 n ∧ gt T 1 = l ∧ gt T 18 = l ∧ gt T 19 = .int .i64 rs.length ∧ gt T 20 = .int .i64 (i : Nat) ∧ m + i = rs.length ∧ ∀ j, j < i → okR n (nth rs j)) ?_ rs.length _ ⟨_, _, 0, rfl, rfl, rfl, rfl, rfl, rfl, rfl, rfl, fun j hj => by omega⟩
  rintro m _ ⟨T, H, i, rfl, hT, g0, g1, g18, g19, g20, hm, ih⟩
  obtain ⟨f, rfl⟩ := ex56 hT
  clear hT
  replace g0 : f 0 = .int .i64 n := g0
  replace g1 : f 1 = l := g1
  replace g18 : f 18 = l := g18
  replace g19 : f 19 = .int .i64 rs.length := g19
  replace g20 : f 20 = .int .i64 (i : Nat) := g20
  simp only [g0, g1, g18, g19, g20]
  repeat' (first | (refine WO.yes rfl ?_) | (refine WO.noE rfl (by simp only [pt8, pt0, pt1, pt2, pt3, pt4, pt5, pt6, pt7]; rfl) ?_) | (refine WO.opE (by intro; simp (disch := omega) only [go_sem, Zz.look, Zz.over, Zz.cut, Nat.reduceAdd, Nat.reduceMul, Nat.reduceSub, Nat.reduceLeDiff, Nat.reduceEqDiff, Int.reduceNeg, Int.reduceAdd, Int.reduceToNat, reduceIte, reduceCtorEq, hl.at, cut4, app_g0, app_s0]; rfl) (by simp only [pt8, pt0, pt1, pt2, pt3, pt4, pt5, pt6, pt7]; rfl) ?_) | (refine WO.opN (by intro; simp (disch := omega) only [go_sem, Zz.look, Zz.over, Zz.cut, Nat.reduceAdd, Nat.reduceMul, Nat.reduceSub, Nat.reduceLeDiff, Nat.reduceEqDiff, Int.reduceNeg, Int.reduceAdd, Int.reduceToNat, reduceIte, reduceCtorEq, hl.at, cut4, app_g0, app_s0]; rfl) ?_) | (refine WO.opE (by intro; exact ev_lenS (by simp only [go_sem]; first | rfl | assumption)) (by simp only [pt8, pt0, pt1, pt2, pt3, pt4, pt5, pt6, pt7]; rfl) ?_) | (refine WO.opE (by intro; exact ev_lenS (by simp only [go_sem]; exact hlen)) (by simp only [pt8, pt0, pt1, pt2, pt3, pt4, pt5, pt6, pt7]; rfl) ?_) | (refine WO.specE rfl rfl (s24) (by simp only [pt8, pt0, pt1, pt2, pt3, pt4, pt5, pt6, pt7]; rfl) ?_) | (refine WC.seq ?_) | (refine WC.region ?_) | (refine WO.nil ?_) | (simp only [fl1, fl2, fl3, fl4, fl5, fl6, fl7, fl8, fl9, fl10, Nat.reduceBEq]) | (refine WC.calm rfl ?_) | (refine WC.drawT ?_) | (refine WC.yes rfl ?_) | (refine WC.no rfl ?_) | (refine WC.skip ?_) | (refine WC.exit ?_) | (refine WC.ret ?_) | (refine WC.block ?_) | (refine WO.em2 rfl (by intro hp; simp only [hp, decide_true]; rfl) (by intro hp; simp only [hp, decide_false]; rfl) (fun hp => ?_) (fun hp => ?_) <;> try (exfalso; first | omega | contradiction)) | (refine WC.em2 rfl (fun hp => ?_) (fun hp => ?_) <;> try (exfalso; first | omega | contradiction)))
  all_goals first
    | (refine ⟨m - 1, by omega, _, _, i + 1, rfl, rfl, rfl, rfl, rfl, rfl, rfl, by omega, fun j hj => ?_⟩
       by_cases e : j = i
       · subst e; unfold okR; omega
       · exact ih j (by omega))
    | (refine ⟨_, rfl, ?_⟩
       simp only [oneRes, gt8, gt0, gt1, gt2, gt3, gt4, gt5, gt6, gt7, AV.bool.injEq]
       symm
       first
       | (rw [decide_eq_false_iff_not]
          intro h
          obtain ⟨o1, o2, o3, o4, o5, o6, o7, o8⟩ := h.at (i := i) (by omega)
          omega)
       | (rw [decide_eq_true_iff]
          refine ⟨by omega, by omega, by omega, fun r hr => ?_⟩
          obtain ⟨k, hk, rfl⟩ := List.getElem_of_mem hr
          rw [← nth_lt hk]
          exact ih k (by omega)))

theorem s12 {n : Int} {rs : List Rg} {l : AV} (hl : RdL l rs) (hmax : rs.length < 9223372036854775808) {m : Mem} : borrowE E3 12 [.int .i64 n, l] m = some (.bool (decide (VL n rs)), m) :=
  borrowE_of (pures_cons rfl (pures_cons hl.pureA rfl)) ((f12 hl hmax).mono fun y m' h => by rw [h]; rfl)

noncomputable def E4 : Env := E3.add 12
theorem E4_ok : EnvOk Try.prog E4 := Env.add_ok E3_ok (callable Try.func12 (by kernel_rfl))

theorem f13 {n : Int} {rs : List Rg} {l : AV} (hl : RdL l rs) (hmax : rs.length < 9223372036854775808) : WF E4 (.func 13 [] []) [.int .i64 n, l] ⟨[], []⟩ fun y m' => y = .bool (decide (VL n rs)) := by
  have hlen := hl.len
  refine WF.fnE rfl (fn_of Try.func13 cir13) (by show 2 ≤ 64; decide) ?_
  unfold ir13
  simp only [padTo, List.replicate, List.nil_append, List.append_nil, List.cons_append]
  repeat' (first | (refine WO.yes rfl ?_) | (refine WO.noE rfl (by simp only [pt8, pt0, pt1, pt2, pt3, pt4, pt5, pt6, pt7]; rfl) ?_) | (refine WO.opE (by intro; simp (disch := omega) only [go_sem, Zz.look, Zz.over, Zz.cut, Nat.reduceAdd, Nat.reduceMul, Nat.reduceSub, Nat.reduceLeDiff, Nat.reduceEqDiff, Int.reduceNeg, Int.reduceAdd, Int.reduceToNat, reduceIte, reduceCtorEq]; rfl) (by simp only [pt8, pt0, pt1, pt2, pt3, pt4, pt5, pt6, pt7]; rfl) ?_) | (refine WO.opN (by intro; simp (disch := omega) only [go_sem, Zz.look, Zz.over, Zz.cut, Nat.reduceAdd, Nat.reduceMul, Nat.reduceSub, Nat.reduceLeDiff, Nat.reduceEqDiff, Int.reduceNeg, Int.reduceAdd, Int.reduceToNat, reduceIte, reduceCtorEq]; rfl) ?_) | (refine WO.opE (by intro; exact ev_lenS (by simp only [go_sem]; first | rfl | assumption)) (by simp only [pt8, pt0, pt1, pt2, pt3, pt4, pt5, pt6, pt7]; rfl) ?_) | (refine WO.opE (by intro; exact ev_lenS (by simp only [go_sem]; exact hlen)) (by simp only [pt8, pt0, pt1, pt2, pt3, pt4, pt5, pt6, pt7]; rfl) ?_) | (refine WC.seq ?_) | (refine WC.region ?_) | (refine WO.nil ?_) | (simp only [fl1, fl2, fl3, fl4, fl5, fl6, fl7, fl8, fl9, fl10, Nat.reduceBEq]) | (refine WC.calm rfl ?_) | (refine WC.drawT ?_) | (refine WC.yes rfl ?_) | (refine WC.no rfl ?_) | (refine WC.skip ?_) | (refine WC.exit ?_) | (refine WC.ret ?_) | (refine WC.block ?_) | (refine WO.em2 rfl (by intro hp; simp only [hp, decide_true]; rfl) (by intro hp; simp only [hp, decide_false]; rfl) (fun hp => ?_) (fun hp => ?_) <;> try (exfalso; first | omega | contradiction)) | (refine WC.em2 rfl (fun hp => ?_) (fun hp => ?_) <;> try (exfalso; first | omega | contradiction)))
  case refine_1 => exact ⟨_, rfl, by simp only [oneRes, gt8, gt0, gt1, gt2, gt3, gt4, gt5, gt6, gt7, AV.bool.injEq]; symm; rw [decide_eq_false_iff_not]; intro h; have := h.1; omega⟩
  case refine_2.refine_1 => exact ⟨_, rfl, by simp only [oneRes, gt8, gt0, gt1, gt2, gt3, gt4, gt5, gt6, gt7, AV.bool.injEq]; symm; rw [decide_eq_false_iff_not]; intro h; have := h.2.1; omega⟩
  case refine_2.refine_2.refine_1 => exact ⟨_, rfl, by simp only [oneRes, gt8, gt0, gt1, gt2, gt3, gt4, gt5, gt6, gt7, AV.bool.injEq]; symm; rw [decide_eq_false_iff_not]; intro h; have := h.2.2.1; omega⟩
  refine WC.loopI (fun m s => ∃ T H i, s = ⟨T, H, []⟩ ∧ T.length = 64 ∧ gt T 0 = .int .i64 n ∧ gt T 1 = l ∧ gt T 5 = .int .i64 (i : Nat) ∧ m + i = rs.length ∧ ∀ j, j < i → okR n (nth rs j)) ?_ rs.length _ ⟨_, _, 0, rfl, rfl, rfl, rfl, rfl, rfl, fun j hj => by omega⟩
  rintro m _ ⟨T, H, i, rfl, hT, g0, g1, g5, hm, ih⟩
  obtain ⟨f, rfl⟩ := ex64 hT
  clear hT
  replace g0 : f 0 = .int .i64 n := g0
  replace g1 : f 1 = l := g1
  replace g5 : f 5 = .int .i64 (i : Nat) := g5
  simp only [g0, g1, g5]
  repeat' (first | (refine WO.yes rfl ?_) | (refine WO.noE rfl (by simp only [pt8, pt0, pt1, pt2, pt3, pt4, pt5, pt6, pt7]; rfl) ?_) | (refine WO.opE (by intro; simp (disch := omega) only [go_sem, Zz.look, Zz.over, Zz.cut, Nat.reduceAdd, Nat.reduceMul, Nat.reduceSub, Nat.reduceLeDiff, Nat.reduceEqDiff, Int.reduceNeg, Int.reduceAdd, Int.reduceToNat, reduceIte, reduceCtorEq, hl.at, cut4, app_g0, app_s0]; rfl) (by simp only [pt8, pt0, pt1, pt2, pt3, pt4, pt5, pt6, pt7]; rfl) ?_) | (refine WO.opN (by intro; simp (disch := omega) only [go_sem, Zz.look, Zz.over, Zz.cut, Nat.reduceAdd, Nat.reduceMul, Nat.reduceSub, Nat.reduceLeDiff, Nat.reduceEqDiff, Int.reduceNeg, Int.reduceAdd, Int.reduceToNat, reduceIte, reduceCtorEq, hl.at, cut4, app_g0, app_s0]; rfl) ?_) | (refine WO.opE (by intro; exact ev_lenS (by simp only [go_sem]; first | rfl | assumption)) (by simp only [pt8, pt0, pt1, pt2, pt3, pt4, pt5, pt6, pt7]; rfl) ?_) | (refine WO.opE (by intro; exact ev_lenS (by simp only [go_sem]; exact hlen)) (by simp only [pt8, pt0, pt1, pt2, pt3, pt4, pt5, pt6, pt7]; rfl) ?_) | (refine WO.specE rfl rfl (s27) (by simp only [pt8, pt0, pt1, pt2, pt3, pt4, pt5, pt6, pt7]; rfl) ?_) | (refine WC.seq ?_) | (refine WC.region ?_) | (refine WO.nil ?_) | (simp only [fl1, fl2, fl3, fl4, fl5, fl6, fl7, fl8, fl9, fl10, Nat.reduceBEq]) | (refine WC.calm rfl ?_) | (refine WC.drawT ?_) | (refine WC.yes rfl ?_) | (refine WC.no rfl ?_) | (refine WC.skip ?_) | (refine WC.exit ?_) | (refine WC.ret ?_) | (refine WC.block ?_) | (refine WO.em2 rfl (by intro hp; simp only [hp, decide_true]; rfl) (by intro hp; simp only [hp, decide_false]; rfl) (fun hp => ?_) (fun hp => ?_) <;> try (exfalso; first | omega | contradiction)) | (refine WC.em2 rfl (fun hp => ?_) (fun hp => ?_) <;> try (exfalso; first | omega | contradiction)))
  all_goals first
    | (refine ⟨m - 1, by omega, _, _, i + 1, rfl, rfl, rfl, rfl, rfl, by omega, fun j hj => ?_⟩
       by_cases e : j = i
       · subst e; unfold okR; omega
       · exact ih j (by omega))
    | (refine ⟨_, rfl, ?_⟩
       simp only [oneRes, gt8, gt0, gt1, gt2, gt3, gt4, gt5, gt6, gt7, AV.bool.injEq]
       symm
       first
       | (rw [decide_eq_false_iff_not]
          intro h
          obtain ⟨o1, o2, o3, o4, o5, o6, o7, o8⟩ := h.at (i := i) (by omega)
          omega)
       | (rw [decide_eq_true_iff]
          refine ⟨by omega, by omega, by omega, fun r hr => ?_⟩
          obtain ⟨k, hk, rfl⟩ := List.getElem_of_mem hr
          rw [← nth_lt hk]
          exact ih k (by omega)))

theorem s13 {n : Int} {rs : List Rg} {l : AV} (hl : RdL l rs) (hmax : rs.length < 9223372036854775808) {m : Mem} : borrowE E4 13 [.int .i64 n, l] m = some (.bool (decide (VL n rs)), m) :=
  borrowE_of (pures_cons rfl (pures_cons hl.pureA rfl)) ((f13 hl hmax).mono fun y m' h => by rw [h]; rfl)

noncomputable def E5 : Env := E4.add 13
theorem E5_ok : EnvOk Try.prog E5 := Env.add_ok E4_ok (callable Try.func13 (by kernel_rfl))
end Go.Proofs.Ytndaljjljmmlcaa


set_option linter.unusedSimpArgs false
set_option linter.unusedVariables false
namespace Go.Proofs.Ytndaljjljmmlcaa
open Go.Zz


theorem f33 {n : Int} {rs : List Rg} (hv : VL n rs) {l : AV} (hl : RdL l rs) {s : Int} (hs : Num rs s) : WF E5 (.func 33 [] []) [l, .int .i64 s] ⟨[], []⟩ fun y m' => y = .int .i64 (stA rs s) := by
  obtain ⟨g0, g1, g2⟩ := hs
  have hlen := hv.2.2.1
  have e1 : (-s - 1).toNat = (0 - s - 1).toNat := by omega
  have hr : s < 0 → -100000000000000 ≤ (nth rs (0 - s - 1).toNat).lo ∧ (nth rs (0 - s - 1).toNat).lo ≤ 100000000000000 := fun h => by
    obtain ⟨o1, o2, o3, o4, o5, o6, o7, o8⟩ := hv.at (i := (0 - s - 1).toNat) (by omega)
    exact ⟨o6, Int.le_trans o7 o8⟩
  have hneg : s < 0 → IntKind.wrap .i64 (0 - (nth rs (0 - s - 1).toNat).lo) = 0 - (nth rs (0 - s - 1).toNat).lo := fun h => by
    obtain ⟨o1, o2⟩ := hr h
    exact wrap_id (by omega) (by omega)
  refine WF.fnE rfl (fn_of Try.func33 cir33) (by show 2 ≤ 20; decide) ?_
  unfold ir33
  simp only [padTo, List.replicate, List.nil_append, List.append_nil, List.cons_append]
  repeat' (first | (refine WO.yes rfl ?_) | (refine WO.noE rfl (by simp only [pt8, pt0, pt1, pt2, pt3, pt4, pt5, pt6, pt7]; rfl) ?_) | (refine WO.opE (by intro; simp (disch := omega) only [go_sem, Zz.look, Zz.over, Zz.cut, Nat.reduceAdd, Nat.reduceMul, Nat.reduceSub, Nat.reduceLeDiff, Nat.reduceEqDiff, Int.reduceNeg, Int.reduceAdd, Int.reduceToNat, reduceIte, reduceCtorEq, hl.at, hneg]; rfl) (by simp only [pt8, pt0, pt1, pt2, pt3, pt4, pt5, pt6, pt7]; rfl) ?_) | (refine WO.opN (by intro; simp (disch := omega) only [go_sem, Zz.look, Zz.over, Zz.cut, Nat.reduceAdd, Nat.reduceMul, Nat.reduceSub, Nat.reduceLeDiff, Nat.reduceEqDiff, Int.reduceNeg, Int.reduceAdd, Int.reduceToNat, reduceIte, reduceCtorEq, hl.at, hneg]; rfl) ?_) | (refine WO.opE (by intro; exact ev_lenS (by simp only [go_sem]; first | rfl | assumption)) (by simp only [pt8, pt0, pt1, pt2, pt3, pt4, pt5, pt6, pt7]; rfl) ?_) | (refine WC.seq ?_) | (refine WC.region ?_) | (refine WO.nil ?_) | (simp only [fl1, fl2, fl3, fl4, fl5, fl6, fl7, fl8, fl9, fl10, Nat.reduceBEq]) | (refine WC.calm rfl ?_) | (refine WC.drawT ?_) | (refine WC.yes rfl ?_) | (refine WC.no rfl ?_) | (refine WC.skip ?_) | (refine WC.exit ?_) | (refine WC.ret ?_) | (refine WC.block ?_) | (refine WO.em2 rfl (by intro hp; simp only [hp, decide_true]; rfl) (by intro hp; simp only [hp, decide_false]; rfl) (fun hp => ?_) (fun hp => ?_) <;> try (exfalso; first | omega | contradiction)) | (refine WC.em2 rfl (fun hp => ?_) (fun hp => ?_) <;> try (exfalso; first | omega | contradiction)))
  all_goals refine ⟨_, rfl, ?_⟩
  all_goals simp only [oneRes, gt8, gt0, gt1, gt2, gt3, gt4, gt5, gt6, gt7, AV.int.injEq, true_and, stA, rdOf, e1]
  all_goals by_cases hq : s < 0
  all_goals simp only [hq, if_true, if_false]
  all_goals first | (exfalso; omega) | rfl | omega
theorem s33 {n : Int} {rs : List Rg} (hv : VL n rs) {l : AV} (hl : RdL l rs) {s : Int} (hs : Num rs s) {m : Mem} : borrowE E5 33 [l, .int .i64 s] m = some (.int .i64 (stA rs s), m) :=
  borrowE_of (pures_cons hl.pureA (pures_cons rfl rfl)) ((f33 hv hl hs).mono fun y m' h => by rw [h]; rfl)

noncomputable def E6 : Env := E5.add 33
theorem E6_ok : EnvOk Try.prog E6 := Env.add_ok E5_ok (callable Try.func33 (by kernel_rfl))

theorem f34 {n : Int} {rs : List Rg} (hv : VL n rs) {l : AV} (hl : RdL l rs) {s : Int} (hs : Num rs s) : WF E6 (.func 34 [] []) [l, .int .i64 s] ⟨[], []⟩ fun y m' => y = .int .i64 (stW rs s) := by
  obtain ⟨g0, g1, g2⟩ := hs
  have hlen := hv.2.2.1
  have e1 : (-s - 1).toNat = (0 - s - 1).toNat := by omega
  have hr : s < 0 → -100000000000000 ≤ (nth rs (0 - s - 1).toNat).lo ∧ (nth rs (0 - s - 1).toNat).lo ≤ 100000000000000 := fun h => by
    obtain ⟨o1, o2, o3, o4, o5, o6, o7, o8⟩ := hv.at (i := (0 - s - 1).toNat) (by omega)
    exact ⟨o6, Int.le_trans o7 o8⟩
  have hneg : s < 0 → IntKind.wrap .i64 (0 - (nth rs (0 - s - 1).toNat).lo) = 0 - (nth rs (0 - s - 1).toNat).lo := fun h => by
    obtain ⟨o1, o2⟩ := hr h
    exact wrap_id (by omega) (by omega)
  refine WF.fnE rfl (fn_of Try.func34 cir34) (by show 2 ≤ 21; decide) ?_
  unfold ir34
  simp only [padTo, List.replicate, List.nil_append, List.append_nil, List.cons_append]
  repeat' (first | (refine WO.yes rfl ?_) | (refine WO.noE rfl (by simp only [pt8, pt0, pt1, pt2, pt3, pt4, pt5, pt6, pt7]; rfl) ?_) | (refine WO.opE (by intro; simp (disch := omega) only [go_sem, Zz.look, Zz.over, Zz.cut, Nat.reduceAdd, Nat.reduceMul, Nat.reduceSub, Nat.reduceLeDiff, Nat.reduceEqDiff, Int.reduceNeg, Int.reduceAdd, Int.reduceToNat, reduceIte, reduceCtorEq, hl.at, hneg]; rfl) (by simp only [pt8, pt0, pt1, pt2, pt3, pt4, pt5, pt6, pt7]; rfl) ?_) | (refine WO.opN (by intro; simp (disch := omega) only [go_sem, Zz.look, Zz.over, Zz.cut, Nat.reduceAdd, Nat.reduceMul, Nat.reduceSub, Nat.reduceLeDiff, Nat.reduceEqDiff, Int.reduceNeg, Int.reduceAdd, Int.reduceToNat, reduceIte, reduceCtorEq, hl.at, hneg]; rfl) ?_) | (refine WO.opE (by intro; exact ev_lenS (by simp only [go_sem]; first | rfl | assumption)) (by simp only [pt8, pt0, pt1, pt2, pt3, pt4, pt5, pt6, pt7]; rfl) ?_) | (refine WC.seq ?_) | (refine WC.region ?_) | (refine WO.nil ?_) | (simp only [fl1, fl2, fl3, fl4, fl5, fl6, fl7, fl8, fl9, fl10, Nat.reduceBEq]) | (refine WC.calm rfl ?_) | (refine WC.drawT ?_) | (refine WC.yes rfl ?_) | (refine WC.no rfl ?_) | (refine WC.skip ?_) | (refine WC.exit ?_) | (refine WC.ret ?_) | (refine WC.block ?_) | (refine WO.em2 rfl (by intro hp; simp only [hp, decide_true]; rfl) (by intro hp; simp only [hp, decide_false]; rfl) (fun hp => ?_) (fun hp => ?_) <;> try (exfalso; first | omega | contradiction)) | (refine WC.em2 rfl (fun hp => ?_) (fun hp => ?_) <;> try (exfalso; first | omega | contradiction)))
  all_goals refine ⟨_, rfl, ?_⟩
  all_goals simp only [oneRes, gt8, gt0, gt1, gt2, gt3, gt4, gt5, gt6, gt7, AV.int.injEq, true_and, stW, rdOf, e1]
  all_goals by_cases hq : s < 0
  all_goals simp only [hq, if_true, if_false]
  all_goals first | (exfalso; omega) | rfl | omega
theorem s34 {n : Int} {rs : List Rg} (hv : VL n rs) {l : AV} (hl : RdL l rs) {s : Int} (hs : Num rs s) {m : Mem} : borrowE E6 34 [l, .int .i64 s] m = some (.int .i64 (stW rs s), m) :=
  borrowE_of (pures_cons hl.pureA (pures_cons rfl rfl)) ((f34 hv hl hs).mono fun y m' h => by rw [h]; rfl)

noncomputable def E7 : Env := E6.add 34
theorem E7_ok : EnvOk Try.prog E7 := Env.add_ok E6_ok (callable Try.func34 (by kernel_rfl))

theorem Num.neg {rs : List Rg} {s : Int} (h : Num rs s) : Num rs (0 - s) := ⟨by have := h.1; omega, by have := h.2.2; omega, by have := h.2.1; omega⟩
theorem stA_neg {rs : List Rg} {s : Int} (h : s ≠ 0) : stA rs (0 - s) = stB rs s := by
  unfold stA stB rdOf
  by_cases h1 : s < 0
  · rw [if_neg (by omega), if_pos h1, if_neg (by omega), if_pos h1, show (0 - s - 1).toNat = (-s - 1).toNat by omega]
  · rw [if_pos (by omega), if_neg h1, if_pos (by omega), if_neg h1, show (-(0 - s) - 1).toNat = (s - 1).toNat by omega]
theorem f32 {n : Int} {rs : List Rg} (hv : VL n rs) {l : AV} (hl : RdL l rs) {s : Int} (hs : Num rs s) : WF E7 (.func 32 [] []) [l, .int .i64 s] ⟨[], []⟩ fun y m' => y = .int .i64 (stB rs s) := by
  have hn := hs.neg
  have hlen := hv.2.2.1
  obtain ⟨g0, g1, g2⟩ := hs
  refine WF.fnE rfl (fn_of Try.func32 cir32) (by show 2 ≤ 9; decide) ?_
  unfold ir32
  simp only [padTo, List.replicate, List.nil_append, List.append_nil, List.cons_append]
  repeat' (first | (refine WO.yes rfl ?_) | (refine WO.noE rfl (by simp only [pt8, pt0, pt1, pt2, pt3, pt4, pt5, pt6, pt7]; rfl) ?_) | (refine WO.opE (by intro; simp (disch := omega) only [go_sem, Zz.look, Zz.over, Zz.cut, Nat.reduceAdd, Nat.reduceMul, Nat.reduceSub, Nat.reduceLeDiff, Nat.reduceEqDiff, Int.reduceNeg, Int.reduceAdd, Int.reduceToNat, reduceIte, reduceCtorEq]; rfl) (by simp only [pt8, pt0, pt1, pt2, pt3, pt4, pt5, pt6, pt7]; rfl) ?_) | (refine WO.opN (by intro; simp (disch := omega) only [go_sem, Zz.look, Zz.over, Zz.cut, Nat.reduceAdd, Nat.reduceMul, Nat.reduceSub, Nat.reduceLeDiff, Nat.reduceEqDiff, Int.reduceNeg, Int.reduceAdd, Int.reduceToNat, reduceIte, reduceCtorEq]; rfl) ?_) | (refine WO.opE (by intro; exact ev_lenS (by simp only [go_sem]; first | rfl | assumption)) (by simp only [pt8, pt0, pt1, pt2, pt3, pt4, pt5, pt6, pt7]; rfl) ?_) | (refine WO.specE rfl rfl (s33 hv hl hn) (by simp only [pt8, pt0, pt1, pt2, pt3, pt4, pt5, pt6, pt7]; rfl) ?_) | (refine WC.seq ?_) | (refine WC.region ?_) | (refine WO.nil ?_) | (simp only [fl1, fl2, fl3, fl4, fl5, fl6, fl7, fl8, fl9, fl10, Nat.reduceBEq]) | (refine WC.calm rfl ?_) | (refine WC.drawT ?_) | (refine WC.yes rfl ?_) | (refine WC.no rfl ?_) | (refine WC.skip ?_) | (refine WC.exit ?_) | (refine WC.ret ?_) | (refine WC.block ?_) | (refine WO.em2 rfl (by intro hp; simp only [hp, decide_true]; rfl) (by intro hp; simp only [hp, decide_false]; rfl) (fun hp => ?_) (fun hp => ?_) <;> try (exfalso; first | omega | contradiction)) | (refine WC.em2 rfl (fun hp => ?_) (fun hp => ?_) <;> try (exfalso; first | omega | contradiction)))
  exact ⟨_, rfl, by rw [← stA_neg g0]; rfl⟩
theorem s32 {n : Int} {rs : List Rg} (hv : VL n rs) {l : AV} (hl : RdL l rs) {s : Int} (hs : Num rs s) {m : Mem} : borrowE E7 32 [l, .int .i64 s] m = some (.int .i64 (stB rs s), m) :=
  borrowE_of (pures_cons hl.pureA (pures_cons rfl rfl)) ((f32 hv hl hs).mono fun y m' h => by rw [h]; rfl)

noncomputable def E8 : Env := E7.add 32
theorem E8_ok : EnvOk Try.prog E8 := Env.add_ok E7_ok (callable Try.func32 (by kernel_rfl))

theorem s35 {n : Int} {rs : List Rg} (hv : VL n rs) {l : AV} (hl : RdL l rs) {s : Int} (hs : Num rs s) {m : Mem} : borrowE E3 35 [l, .int .i64 s] m = some (.agg [.int .i64 (stA rs s), .int .i64 (stB rs s), .int .i64 (stW rs s)], m) :=
  borrowE_of (pures_cons hl.pureA (pures_cons rfl rfl)) ((f35 hv hl hs).mono fun y m' h => by rw [h]; rfl)
noncomputable def E9 : Env := { fn := E8.fn, spec := fun k => if k = 35 then some (borrowE E3 35) else E8.spec k }
theorem E9_ok : EnvOk Try.prog E9 := by
  refine ⟨E8_ok.fn, fun k S hS => ?_⟩
  simp only [E9] at hS
  split at hS
  · rename_i e
    subst e
    cases hS
    exact borrowE_ok E3_ok (callable Try.func35 (by kernel_rfl))
  · exact E8_ok.spec k S hS
end Go.Proofs.Ytndaljjljmmlcaa

