import Derived.Test.YtgchabldcnmccacGreatDoorAbsI
import Derived.Test.YtgchabldcnmccacGreatDoorEx
import Derived.Test.YtgchabldcnmccacGreatDoorHIr

set_option linter.unusedSimpArgs false
set_option linter.unusedVariables false

namespace Go.Proofs.YtgchabldcnmccacGreatDoor
open Go.Zz
set_option maxRecDepth 100000
set_option maxHeartbeats 8000000
noncomputable def G0 : Env := { fn := fun g => (Tryz.prog.funcs[g]?).bind (cFunc Tryz.prog), spec := fun _ => none }
theorem G0_ok : EnvOk Tryz.prog G0 := by
 refine ⟨fun g ifn h => ?_, fun g S h => by cases h⟩
 simp only [G0, Option.bind_eq_some_iff] at h
 exact h
theorem fn_of {g : Nat} {f : Func} {i : IFunc} (hf : Tryz.prog.funcs[g]? = some f) (hc : cFunc Tryz.prog f = some i) : G0.fn g = some i := by
 simp only [G0, hf, Option.bind_some, hc]
theorem callable {g : Nat} {f : Func} (hf : Tryz.prog.funcs[g]? = some f) (h : (f.name != "runtime.NumGoroutine" && f.body.isSome) = true) : Callable Tryz.prog g := by
 simp only [Bool.and_eq_true, bne_iff_ne, ne_eq] at h
 exact ⟨f, hf, h.1, h.2⟩
structure Tk where
 s : Int
 c : Int
 n : Int
 d : Int
 deriving Inhabited, DecidableEq
structure Ac where
 p : Int
 w : Int
 v : Tk
 deriving Inhabited, DecidableEq
def tk0 : Tk := ⟨0, 0, 0, 0⟩
def ac0 : Ac := ⟨0, 0, tk0⟩
def BlOk (b : Int) : Prop := 1 ≤ b ∧ b ≤ 1000000
def DkOk (d n : Int) : Prop := 0 ≤ d ∧ d < n
def TkOk (t : Tk) : Prop := 1 ≤ t.s ∧ t.s < 16 ∧ 0 ≤ t.c ∧ t.c < 6 ∧ 0 ≤ t.d ∧ t.d < 8 ∧ (t.n = 0 ∧ t.c = 0 ∨ t.n = 1 ∨ t.n = -1)
def VtOk (b : Int) (t : Tk) : Prop := b = 0 ∧ t = tk0 ∨ b ≠ 0 ∧ TkOk t
def AcOk (a : Ac) : Prop := 0 ≤ a.w ∧ a.w ≤ a.p ∧ a.p ≤ 1000000 ∧ VtOk a.w a.v
instance (b : Int) : Decidable (BlOk b) := inferInstanceAs (Decidable (_ ∧ _))
instance (b n : Int) : Decidable (DkOk b n) := inferInstanceAs (Decidable (_ ∧ _))
instance (t : Tk) : Decidable (TkOk t) := inferInstanceAs (Decidable (_ ∧ _))
instance (b : Int) (t : Tk) : Decidable (VtOk b t) := inferInstanceAs (Decidable (_ ∨ _))
instance (a : Ac) : Decidable (AcOk a) := inferInstanceAs (Decidable (_ ∧ _))
theorem f11 {b : Int} : WF G0 (.func 15 [] []) [.int .i64 b] ⟨[], []⟩ fun y m' => y = .bool (decide (BlOk b)) := by
 refine WF.fnE rfl (fn_of Tryz.func15 cir15) (by show 1 ≤ 9; decide) ?_
 unfold ir15; dsimp only [k0, kI, mV, oO, oG]
 simp only [padTo, List.replicate, List.nil_append, List.append_nil]
 repeat' (first | (refine WO.yes rfl ?_) | (refine WO.noE rfl (by simp only [pt6, pt7]; rfl) ?_) | (refine WO.opE (by intro; simp (disch := omega) only [go_sem]; rfl) (by simp only [pt8, pt0, pt2, pt3, pt4, pt5, pt6, pt7]; rfl) ?_) | (refine WC.seq ?_) | (refine WC.region ?_) | (refine WO.nil ?_) | (simp only [fl1]) | (refine WC.ret ?_) | (refine WO.em2 rfl (by intro hp; simp only [hp, decide_true]; rfl) (by intro hp; simp only [hp, decide_false]; rfl) (fun hp => ?_) (fun hp => ?_) <;> try (exfalso; first | omega | contradiction)) | fail)
 all_goals refine ⟨_, rfl, ?_⟩
 all_goals simp only [oneRes, AV.bool.injEq, gt2]
 all_goals first
  | rfl
  | (symm; rw [decide_eq_true_iff]; (try simp only [BlOk] at *); omega)
  | (symm; rw [decide_eq_false_iff_not]; (try simp only [BlOk] at *); omega)
  | (rw [decide_eq_decide]; (try simp only [BlOk] at *); omega)
theorem s11 {b : Int} {m : Mem} : borrowE G0 15 [.int .i64 b] m = some (.bool (decide (BlOk b)), m) :=
 borrowE_of rfl (f11.mono fun y m' h => by rw [h]; rfl)
noncomputable def E1 : Env := G0.put 15 (borrowE G0 15)
theorem E1_ok : EnvOk Tryz.prog E1 := Env.put_ok G0_ok (borrowE_ok G0_ok (callable Tryz.func15 (by kernel_rfl)))
theorem f20 {d n : Int} : WF E1 (.func 36 [] []) [.int .i64 d, .int .i64 n] ⟨[], []⟩ fun y m' => y = .bool (decide (DkOk d n)) := by
 refine WF.fnE rfl (fn_of Tryz.func36 cir36) (by show 2 ≤ 12; decide) ?_
 unfold ir36; dsimp only [k0, kI, mV, oO, oG]
 simp only [padTo, List.replicate, List.nil_append, List.append_nil]
 repeat' (first | (refine WO.yes rfl ?_) | (refine WO.noE rfl (by simp only [pt8, pt0, pt1, pt2]; rfl) ?_) | (refine WO.opE (by intro; simp (disch := omega) only [go_sem]; rfl) (by simp only [pt8, pt0, pt1, pt2, pt3, pt4, pt5, pt6, pt7]; rfl) ?_) | (refine WC.seq ?_) | (refine WC.region ?_) | (refine WO.nil ?_) | (simp only [fl1]) | (refine WC.ret ?_) | (refine WO.em2 rfl (by intro hp; simp only [hp, decide_true]; rfl) (by intro hp; simp only [hp, decide_false]; rfl) (fun hp => ?_) (fun hp => ?_) <;> try (exfalso; first | omega | contradiction)) | fail)
 all_goals refine ⟨_, rfl, ?_⟩
 all_goals simp only [oneRes, AV.bool.injEq, gt4]
 all_goals first
  | rfl
  | (symm; rw [decide_eq_true_iff]; (try simp only [DkOk] at *); omega)
  | (symm; rw [decide_eq_false_iff_not]; (try simp only [DkOk] at *); omega)
  | (rw [decide_eq_decide]; (try simp only [DkOk] at *); omega)
theorem s20 {d n : Int} {m : Mem} : borrowE E1 36 [.int .i64 d, .int .i64 n] m = some (.bool (decide (DkOk d n)), m) :=
 borrowE_of rfl (f20.mono fun y m' h => by rw [h]; rfl)
noncomputable def E2 : Env := E1.put 36 (borrowE E1 36)
theorem E2_ok : EnvOk Tryz.prog E2 := Env.put_ok E1_ok (borrowE_ok E1_ok (callable Tryz.func36 (by kernel_rfl)))
theorem f23 {t : Tk} : WF E2 (.func 39 [] []) [.agg [.int .i64 t.s, .int .i64 t.c, .int .i64 t.n, .int .i64 t.d]] ⟨[], []⟩ fun y m' => y = .bool (decide (TkOk t)) := by
 refine WF.fnE rfl (fn_of Tryz.func39 cir39) (by show 1 ≤ 37; decide) ?_
 unfold ir39; dsimp only [k0, kI, mV, oO, oG]
 simp only [padTo, List.replicate, List.nil_append, List.append_nil]
 repeat' (first | (refine WO.yes rfl ?_) | (refine WO.noE rfl (by simp only [pt8, pt0, pt1, pt2, pt3, pt4, pt5, pt6, pt7]; rfl) ?_) | (refine WO.opE (by intro; simp (disch := omega) only [go_sem, Zz.look, Zz.cut, Nat.reduceAdd, Int.reduceNeg, Int.reduceAdd]; rfl) (by simp only [pt8, pt0, pt1, pt2, pt3, pt4, pt5, pt6, pt7]; rfl) ?_) | (refine WO.specE rfl rfl (s20) (by simp only [pt8, pt0]; rfl) ?_) | (refine WC.seq ?_) | (refine WC.region ?_) | (refine WO.nil ?_) | (simp only [fl1, fl2, fl5]) | (refine WC.yes rfl ?_) | (refine WC.skip ?_) | (refine WC.ret ?_) | (refine WC.block ?_) | (refine WO.em2 rfl (by intro hp; simp only [hp, decide_true]; rfl) (by intro hp; simp only [hp, decide_false]; rfl) (fun hp => ?_) (fun hp => ?_) <;> try (exfalso; first | omega | contradiction)) | (refine WC.em2 rfl (fun hp => ?_) (fun hp => ?_) <;> try (exfalso; first | omega | contradiction)))
 all_goals refine ⟨_, rfl, ?_⟩
 all_goals simp only [oneRes, AV.bool.injEq, gt2]
 all_goals first
  | rfl
  | (symm; rw [decide_eq_true_iff]; (try simp only [TkOk, DkOk] at *); omega)
  | (symm; rw [decide_eq_false_iff_not]; (try simp only [TkOk, DkOk] at *); omega)
  | (rw [decide_eq_decide]; (try simp only [TkOk, DkOk] at *); omega)
theorem s23 {t : Tk} {m : Mem} : borrowE E2 39 [.agg [.int .i64 t.s, .int .i64 t.c, .int .i64 t.n, .int .i64 t.d]] m = some (.bool (decide (TkOk t)), m) :=
 borrowE_of rfl (f23.mono fun y m' h => by rw [h]; rfl)
noncomputable def E3 : Env := E2.put 39 (borrowE E2 39)
theorem E3_ok : EnvOk Tryz.prog E3 := Env.put_ok E2_ok (borrowE_ok E2_ok (callable Tryz.func39 (by kernel_rfl)))
theorem tk_eq0 {t : Tk} : t = tk0 ↔ t.s = 0 ∧ t.c = 0 ∧ t.n = 0 ∧ t.d = 0 := by
 obtain ⟨a, b, c, d⟩ := t
 simp [tk0]
theorem f47 {b : Int} {t : Tk} : WF E3 (.func 87 [] []) [.int .i64 b, .agg [.int .i64 t.s, .int .i64 t.c, .int .i64 t.n, .int .i64 t.d]] ⟨[], []⟩ fun y m' => y = .bool (decide (VtOk b t)) := by
 refine WF.fnE rfl (fn_of Tryz.func87 cir87) (by show 2 ≤ 12; decide) ?_
 unfold ir87; dsimp only [k0, kI, mV, oO, oG]
 simp only [padTo, List.replicate, List.nil_append, List.append_nil]
 repeat' (first | (refine WO.opE (by intro; simp (disch := omega) only [go_sem, Zz.look, Zz.cut, fillP, cellsEq, cellEq, Nat.reduceAdd, Nat.reduceLeDiff]; rfl) (by simp only [pt8, pt0, pt1, pt2, pt3, pt4, pt5, pt6, pt7]; rfl) ?_) | (refine WO.specE rfl rfl (s23) (by simp only [pt8, pt3]; rfl) ?_) | (refine WC.seq ?_) | (refine WC.region ?_) | (refine WO.nil ?_) | (simp only [fl1, fl2]) | (refine WC.skip ?_) | (refine WC.ret ?_) | (refine WC.em2 rfl (fun hp => ?_) (fun hp => ?_) <;> try (exfalso; first | omega | contradiction)))
 all_goals refine ⟨_, rfl, ?_⟩
 all_goals simp only [oneRes, AV.bool.injEq, gt4]
 ·rw [Bool.eq_iff_iff]
  simp [VtOk, hp, tk_eq0]
 ·rw [Bool.eq_iff_iff]
  simp [VtOk, hp]
theorem s47 {b : Int} {t : Tk} {m : Mem} : borrowE E3 87 [.int .i64 b, .agg [.int .i64 t.s, .int .i64 t.c, .int .i64 t.n, .int .i64 t.d]] m = some (.bool (decide (VtOk b t)), m) :=
 borrowE_of rfl (f47.mono fun y m' h => by rw [h]; rfl)
noncomputable def E4 : Env := E3.put 87 (borrowE E3 87)
theorem E4_ok : EnvOk Tryz.prog E4 := Env.put_ok E3_ok (borrowE_ok E3_ok (callable Tryz.func87 (by kernel_rfl)))
theorem f46 {a : Ac} : WF E4 (.func 86 [] []) [.agg [.int .i64 a.p, .int .i64 a.w, .int .i64 a.v.s, .int .i64 a.v.c, .int .i64 a.v.n, .int .i64 a.v.d]] ⟨[], []⟩ fun y m' => y = .bool (decide (AcOk a)) := by
 refine WF.fnE rfl (fn_of Tryz.func86 cir86) (by show 1 ≤ 25; decide) ?_
 unfold ir86; dsimp only [k0, kI, mV, oO, oG]
 simp only [padTo, List.replicate, List.nil_append, List.append_nil]
 repeat' (first | (refine WO.yes rfl ?_) | (refine WO.noE rfl (by simp only [pt8, pt0, pt1, pt2, pt3, pt4, pt5, pt6, pt7]; rfl) ?_) | (refine WO.opE (by intro; simp (disch := omega) only [go_sem, Zz.look, Zz.cut, Nat.reduceAdd, Nat.reduceLeDiff]; rfl) (by simp only [pt8, pt0, pt1, pt2, pt3, pt4, pt5, pt6, pt7]; rfl) ?_) | (refine WO.specE rfl rfl (s47) (by simp only [pt8, pt7]; rfl) ?_) | (refine WC.seq ?_) | (refine WC.region ?_) | (refine WO.nil ?_) | (simp only [fl1]) | (refine WC.ret ?_) | (refine WO.em2 rfl (by intro hp; simp only [hp, decide_true]; rfl) (by intro hp; simp only [hp, decide_false]; rfl) (fun hp => ?_) (fun hp => ?_) <;> try (exfalso; first | omega | contradiction)) | fail)
 all_goals refine ⟨_, rfl, ?_⟩
 all_goals simp only [oneRes, AV.bool.injEq, gt2]
 all_goals rw [Bool.eq_iff_iff]
 all_goals simp_all [-Int.not_le, -Int.not_lt, AcOk]
theorem s46 {a : Ac} {m : Mem} : borrowE E4 86 [.agg [.int .i64 a.p, .int .i64 a.w, .int .i64 a.v.s, .int .i64 a.v.c, .int .i64 a.v.n, .int .i64 a.v.d]] m = some (.bool (decide (AcOk a)), m) :=
 borrowE_of rfl (f46.mono fun y m' h => by rw [h]; rfl)
noncomputable def E5 : Env := E4.put 86 (borrowE E4 86)
theorem E5_ok : EnvOk Tryz.prog E5 := Env.put_ok E4_ok (borrowE_ok E4_ok (callable Tryz.func86 (by kernel_rfl)))
structure Pm where
 d : Int
 b : Int
 w : Int
 v : Tk
 deriving Inhabited, DecidableEq
structure Vo where
 d : Int
 b : Int
 v : Tk
 deriving Inhabited, DecidableEq
structure Rc where
 k : Int
 s : Int
 b : Int
 v : Tk
 deriving Inhabited, DecidableEq
def pm0 : Pm := ⟨0, 0, 0, tk0⟩
def vo0 : Vo := ⟨0, 0, tk0⟩
def prep (a : Ac) (d b : Int) : Ac × Pm × Int := if AcOk a ∧ DkOk d 8 ∧ BlOk b then if b ≤ a.p then (ac0, pm0, 24) else (⟨b, a.w, a.v⟩, ⟨d, b, a.w, a.v⟩, 0) else (ac0, pm0, 1)
def acc (a : Ac) (d b : Int) (v : Tk) : Ac × Vo × Int := if AcOk a ∧ DkOk d 8 ∧ BlOk b ∧ TkOk v then if b < a.p then (ac0, vo0, 24) else (⟨b, b, v⟩, ⟨d, b, v⟩, 0) else (ac0, vo0, 1)
theorem f34 {a : Ac} {d b : Int} : WF E5 (.func 68 [] []) [.agg [.int .i64 a.p, .int .i64 a.w, .int .i64 a.v.s, .int .i64 a.v.c, .int .i64 a.v.n, .int .i64 a.v.d], .int .i64 d, .int .i64 b] ⟨[], []⟩ fun y m' => y = .tuple [.agg [.int .i64 (prep a d b).1.p, .int .i64 (prep a d b).1.w, .int .i64 (prep a d b).1.v.s, .int .i64 (prep a d b).1.v.c, .int .i64 (prep a d b).1.v.n, .int .i64 (prep a d b).1.v.d], .agg [.int .i64 (prep a d b).2.1.d, .int .i64 (prep a d b).2.1.b, .int .i64 (prep a d b).2.1.w, .int .i64 (prep a d b).2.1.v.s, .int .i64 (prep a d b).2.1.v.c, .int .i64 (prep a d b).2.1.v.n, .int .i64 (prep a d b).2.1.v.d], .int .i64 (prep a d b).2.2] := by
 refine WF.fnE rfl (fn_of Tryz.func68 cir68) (by show 3 ≤ 42; decide) ?_
 unfold ir68; dsimp only [k0, kI, mV, oO, oG]
 simp only [padTo, List.replicate, List.nil_append, List.append_nil]
 repeat' (first | (refine WO.yes rfl ?_) | (refine WO.noE rfl (by simp only [pt8, pt0, pt3, pt4, pt5, pt6, pt7]; rfl) ?_) | (refine WO.opE (by intro; simp (disch := omega) only [go_sem, Zz.look, Zz.cut, fillP, Nat.reduceAdd, Nat.reduceLeDiff]; rfl) (by simp only [pt8, pt0, pt1, pt2, pt3, pt4, pt5, pt6, pt7]; rfl) ?_) | (refine WO.opN (by intro; simp (disch := omega) only [go_sem, Zz.look, ov_one0, ov_all6, Option.bind_eq_bind, Nat.reduceAdd, setBlk, List.set_cons_zero, List.set_cons_succ]; rfl) ?_) | (refine WO.specE rfl rfl (s46) (by simp only [pt8, pt3]; rfl) ?_) | (refine WO.specE rfl rfl (s20) (by simp only [pt8, pt7]; rfl) ?_) | (refine WO.specE rfl rfl (s11) (by simp only [pt8, pt4]; rfl) ?_) | (refine WC.seq ?_) | (refine WC.region ?_) | (refine WO.nil ?_) | (simp only [fl1, fl2, fl5]) | (refine WC.drawT ?_) | (refine WT.nil ?_) | (refine WT.free rfl (by intro; simp (disch := omega) only [go_sem, Zz.look, ov_one0, ov_one1, ov_one2, Zz.cut, fillP, Option.bind_eq_bind, Nat.reduceAdd, Nat.reduceLeDiff]; rfl) rfl (by simp only [pt8, pt0, pt1, pt2, pt3, pt4, pt5, pt6, pt7]; rfl) ?_) | (refine WT.big rfl rfl (by intro; simp (disch := omega) only [go_sem, Zz.look, Zz.cut, Nat.reduceAdd, Nat.reduceLeDiff]; rfl) (by simp (disch := omega) only [go_sem, touch]; rfl) (by first | exact .inl rfl | exact .inr (apart_nil _) | exact .inr trivial | (right; apply apart_mk; simp only [apartL, List.nil_append, List.cons_append, List.getElem?_cons_succ, List.getElem?_cons_zero, Tch.free, and_true, true_and]; first | done | omega)) (by simp only [pt8, pt0, pt2, pt6]; rfl) ?_) | (refine WT.bigN rfl rfl (by intro; simp (disch := omega) only [go_sem, Zz.look, ov_all6, Option.bind_eq_bind, Nat.reduceAdd, setBlk, List.set_cons_zero, List.set_cons_succ]; rfl) (by simp (disch := omega) only [go_sem, Nat.reduceAdd, touch]; rfl) (by first | exact .inl rfl | exact .inr (apart_nil _) | exact .inr trivial | (right; apply apart_mk; simp only [apartL, List.nil_append, List.cons_append, List.getElem?_cons_succ, List.getElem?_cons_zero, Tch.free, and_true]; first | done | omega)) ?_) | (refine WC.yes rfl ?_) | (refine WC.skip ?_) | (refine WC.ret ?_) | (refine WC.block ?_) | (refine WO.em2 rfl (by intro hp; simp only [hp]; rfl) (by intro hp; simp only [hp, decide_false]; rfl) (fun hp => ?_) (fun hp => ?_) <;> try (exfalso; first | omega | contradiction)) | (refine WC.em2 rfl (fun hp => ?_) (fun hp => ?_) <;> try (exfalso; first | omega | contradiction)))
 all_goals refine ⟨_, rfl, ?_⟩
 all_goals simp only [oneRes, gt8, gt0]
 all_goals by_cases h9 : b ≤ a.p <;> first | (exfalso; omega) | simp_all [-Int.not_le, -Int.not_lt, prep, ac0, pm0, tk0]
theorem s34 {a : Ac} {d b : Int} {m : Mem} : borrowE E5 68 [.agg [.int .i64 a.p, .int .i64 a.w, .int .i64 a.v.s, .int .i64 a.v.c, .int .i64 a.v.n, .int .i64 a.v.d], .int .i64 d, .int .i64 b] m = some (.tuple [.agg [.int .i64 (prep a d b).1.p, .int .i64 (prep a d b).1.w, .int .i64 (prep a d b).1.v.s, .int .i64 (prep a d b).1.v.c, .int .i64 (prep a d b).1.v.n, .int .i64 (prep a d b).1.v.d], .agg [.int .i64 (prep a d b).2.1.d, .int .i64 (prep a d b).2.1.b, .int .i64 (prep a d b).2.1.w, .int .i64 (prep a d b).2.1.v.s, .int .i64 (prep a d b).2.1.v.c, .int .i64 (prep a d b).2.1.v.n, .int .i64 (prep a d b).2.1.v.d], .int .i64 (prep a d b).2.2], m) :=
 borrowE_of rfl (f34.mono fun y m' h => by rw [h]; rfl)
noncomputable def E6 : Env := E5.put 68 (borrowE E5 68)
theorem E6_ok : EnvOk Tryz.prog E6 := Env.put_ok E5_ok (borrowE_ok E5_ok (callable Tryz.func68 (by kernel_rfl)))
theorem f36 {a : Ac} {d b : Int} {v : Tk} : WF E6 (.func 70 [] []) [.agg [.int .i64 a.p, .int .i64 a.w, .int .i64 a.v.s, .int .i64 a.v.c, .int .i64 a.v.n, .int .i64 a.v.d], .int .i64 d, .int .i64 b, .agg [.int .i64 v.s, .int .i64 v.c, .int .i64 v.n, .int .i64 v.d]] ⟨[], []⟩ fun y m' => y = .tuple [.agg [.int .i64 (acc a d b v).1.p, .int .i64 (acc a d b v).1.w, .int .i64 (acc a d b v).1.v.s, .int .i64 (acc a d b v).1.v.c, .int .i64 (acc a d b v).1.v.n, .int .i64 (acc a d b v).1.v.d], .agg [.int .i64 (acc a d b v).2.1.d, .int .i64 (acc a d b v).2.1.b, .int .i64 (acc a d b v).2.1.v.s, .int .i64 (acc a d b v).2.1.v.c, .int .i64 (acc a d b v).2.1.v.n, .int .i64 (acc a d b v).2.1.v.d], .int .i64 (acc a d b v).2.2] := by
 refine WF.fnE rfl (fn_of Tryz.func70 cir70) (by show 4 ≤ 47; decide) ?_
 unfold ir70; dsimp only [k0, kI, mV, oO, oG]
 simp only [padTo, List.replicate, List.nil_append, List.append_nil]
 repeat' (first | (refine WO.yes rfl ?_) | (refine WO.noE rfl (by simp only [pt8, pt0, pt1, pt2, pt3, pt4, pt5, pt6, pt7]; rfl) ?_) | (refine WO.opE (by intro; simp (disch := omega) only [go_sem, Zz.look, Zz.cut, fillP, Nat.reduceAdd, Nat.reduceLeDiff]; rfl) (by simp only [pt8, pt0, pt1, pt2, pt3, pt4, pt5, pt6, pt7]; rfl) ?_) | (refine WO.opN (by intro; simp (disch := omega) only [go_sem, Zz.look, ov_all6, Option.bind_eq_bind, Nat.reduceAdd, setBlk, List.set_cons_zero, List.set_cons_succ]; rfl) ?_) | (refine WO.specE rfl rfl (s46) (by simp only [pt8, pt5]; rfl) ?_) | (refine WO.specE rfl rfl (s20) (by simp only [pt8, pt1]; rfl) ?_) | (refine WO.specE rfl rfl (s11) (by simp only [pt8, pt6]; rfl) ?_) | (refine WO.specE rfl rfl (s23) (by simp only [pt8, pt3]; rfl) ?_) | (refine WC.seq ?_) | (refine WC.region ?_) | (refine WO.nil ?_) | (simp only [fl1, fl2, fl5]) | (refine WC.drawT ?_) | (refine WT.nil ?_) | (refine WT.free rfl (by intro; simp (disch := omega) only [go_sem, Zz.look, ov_one0, ov_one1, Zz.cut, fillP, Option.bind_eq_bind, Nat.reduceAdd, Nat.reduceLeDiff]; rfl) rfl (by simp only [pt8, pt0, pt1, pt2, pt3, pt4, pt5, pt6, pt7]; rfl) ?_) | (refine WT.big rfl rfl (by intro; simp (disch := omega) only [go_sem, Zz.look, Zz.cut, Nat.reduceAdd, Nat.reduceLeDiff]; rfl) (by simp (disch := omega) only [go_sem, Nat.reduceAdd, touch]; rfl) (by first | exact .inl rfl | exact .inr (apart_nil _) | exact .inr trivial | (right; apply apart_mk; simp only [apartL, List.nil_append, List.cons_append, List.getElem?_cons_succ, List.getElem?_cons_zero, Tch.free, and_true, true_and]; first | done | omega)) (by simp only [pt8, pt1, pt5]; rfl) ?_) | (refine WT.bigN rfl rfl (by intro; simp (disch := omega) only [go_sem, Zz.look, ov_all6, Option.bind_eq_bind, Nat.reduceAdd, setBlk, List.set_cons_zero, List.set_cons_succ]; rfl) (by simp (disch := omega) only [go_sem, Nat.reduceAdd, touch]; rfl) (by first | exact .inl rfl | exact .inr (apart_nil _) | exact .inr trivial | (right; apply apart_mk; simp only [apartL, List.nil_append, List.cons_append, List.getElem?_cons_succ, List.getElem?_cons_zero, Tch.free, and_true]; first | done | omega)) ?_) | (refine WC.yes rfl ?_) | (refine WC.skip ?_) | (refine WC.ret ?_) | (refine WC.block ?_) | (refine WO.em2 rfl (by intro hp; simp only [hp]; rfl) (by intro hp; simp only [hp, decide_false]; rfl) (fun hp => ?_) (fun hp => ?_) <;> try (exfalso; first | omega | contradiction)) | (refine WC.em2 rfl (fun hp => ?_) (fun hp => ?_) <;> try (exfalso; first | omega | contradiction)))
 all_goals refine ⟨_, rfl, ?_⟩
 all_goals simp only [oneRes, gt8, gt2]
 all_goals by_cases h9 : b < a.p <;> first | (exfalso; omega) | simp_all [-Int.not_le, -Int.not_lt, acc, ac0, vo0, tk0]
theorem s36 {a : Ac} {d b : Int} {v : Tk} {m : Mem} : borrowE E6 70 [.agg [.int .i64 a.p, .int .i64 a.w, .int .i64 a.v.s, .int .i64 a.v.c, .int .i64 a.v.n, .int .i64 a.v.d], .int .i64 d, .int .i64 b, .agg [.int .i64 v.s, .int .i64 v.c, .int .i64 v.n, .int .i64 v.d]] m = some (.tuple [.agg [.int .i64 (acc a d b v).1.p, .int .i64 (acc a d b v).1.w, .int .i64 (acc a d b v).1.v.s, .int .i64 (acc a d b v).1.v.c, .int .i64 (acc a d b v).1.v.n, .int .i64 (acc a d b v).1.v.d], .agg [.int .i64 (acc a d b v).2.1.d, .int .i64 (acc a d b v).2.1.b, .int .i64 (acc a d b v).2.1.v.s, .int .i64 (acc a d b v).2.1.v.c, .int .i64 (acc a d b v).2.1.v.n, .int .i64 (acc a d b v).2.1.v.d], .int .i64 (acc a d b v).2.2], m) :=
 borrowE_of rfl (f36.mono fun y m' h => by rw [h]; rfl)
noncomputable def E7 : Env := E6.put 70 (borrowE E6 70)
theorem E7_ok : EnvOk Tryz.prog E7 := Env.put_ok E6_ok (borrowE_ok E6_ok (callable Tryz.func70 (by kernel_rfl)))
def RcOk (r : Rc) : Prop := 1 ≤ r.s ∧ r.s < 16 ∧ (r.k = 1 ∧ BlOk r.b ∧ r.v = tk0 ∨ r.k = 2 ∧ BlOk r.b ∧ TkOk r.v ∧ r.v.s = r.s ∨ r.k = 3 ∧ r.b = 0 ∧ TkOk r.v ∧ r.v.s = r.s)
instance (r : Rc) : Decidable (RcOk r) := inferInstanceAs (Decidable (_ ∧ _))
noncomputable def E8 : Env := E7
theorem E8_ok : EnvOk Tryz.prog E8 := E7_ok
end Go.Proofs.YtgchabldcnmccacGreatDoor

