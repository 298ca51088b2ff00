import Derived.Test.YtnilimjkibimcaaTg
import Derived.Test.YtnilimjkibimcaaIrU
set_option linter.unusedSimpArgs false
set_option linter.unusedVariables false

namespace Go.Proofs.Ytnilimjkibimcaa
open Go.Zz
set_option maxRecDepth 100000
set_option maxHeartbeats 8000000
def negV (r : List Int) : List Int := r.map fun x => -x
def addV (a b : List Int) : List Int := (List.range 6).map fun j => a.getD j 0 + b.getD j 0
theorem add_at {a b : List Int} {t : Nat} (h : t < 6) : (addV a b).getD t 0 = a.getD t 0 + b.getD t 0 := by
  unfold addV
  simp [List.getD_eq_getElem?_getD, h]
theorem zer_at (t : Nat) : zer6.getD t 0 = 0 := by
  match t with
  | 0 | 1 | 2 | 3 | 4 | 5 => rfl
  | _ + 6 => rfl
noncomputable def T21 : Env := T20.put 62 (borrowE T20 62)
theorem T21_ok : EnvOk Try.prog T21 := Env.put_ok T20_ok (borrowE_ok T20_ok (callable Try.func62 (by kernel_rfl)))
theorem f63 {a b : List Int} (ha6 : a.length = 6) (hb6 : b.length = 6) (ha : okB 1000 a) (hb : okB 1000 b) : WF T21 (.func 63 [] []) [.agg (icells a), .agg (icells b)] ⟨[], []⟩ fun y m' => y = .agg (icells (addV a b)) := by
  have hma : (icells a).length = 6 := by rw [icells_len, ha6]
  have hmb : (icells b).length = 6 := by rw [icells_len, hb6]
  have hze : icells zer6 = [.int .i64 0, .int .i64 0, .int .i64 0, .int .i64 0, .int .i64 0, .int .i64 0] := rfl
  refine WF.fnE rfl (fn_of Try.func63 cir63) (by show 2 ≤ 22; decide) ?_
  unfold ir63; dsimp only [k0, kI, mV, oO, oG]
  simp only [padTo, List.replicate, List.nil_append, List.append_nil]
  repeat' (first | (refine WO.opE (by intro; simp (disch := omega) only [go_sem, List.cons_append, List.nil_append, fillP, Nat.reduceAdd]; rfl) (by simp only [pt2, pt3, pt4, pt5, pt6, pt7]; rfl) ?_) | (refine WO.opN (by intro; simp (disch := omega) only [go_sem, Zz.look, Option.bind_eq_bind, Nat.reduceAdd, setBlk, List.set_cons_zero, List.set_cons_succ]; rfl) ?_) | (refine WC.seq ?_) | (refine WC.region ?_) | (refine WO.nil ?_) | (simp only [fl1]) | (refine WC.block ?_))
  refine WC.loopI (fun m s => ∃ T j w, s = ⟨T, [some ⟨0, icells a⟩, some ⟨0, icells b⟩, some ⟨0, icells zer6⟩, some ⟨0, icells w⟩], []⟩ ∧ T.length = 22 ∧ gt T 2 = .pref 0 0 0 ∧ gt T 3 = .pref 1 0 0 ∧ gt T 4 = .pref 2 0 0 ∧ gt T 5 = .pref 3 0 0 ∧ gt T 6 = .int .i64 (j : Nat) ∧ m + j = 6 ∧ w.length = 6 ∧ ∀ t, t < j → w.getD t 0 = a.getD t 0 + b.getD t 0) ?_ 6 _ ⟨_, 0, zer6, rfl, rfl, rfl, rfl, rfl, rfl, rfl, by omega, rfl, fun t ht => by omega⟩
  rintro m _ ⟨T, j, w, rfl, hT, g2, g3, g4, g5, g6, hm, hw6, hw1⟩
  obtain ⟨f, rfl⟩ := ex22 hT
  clear hT
  replace g2 : f 2 = .pref 0 0 0 := g2
  replace g3 : f 3 = .pref 1 0 0 := g3
  replace g4 : f 4 = .pref 2 0 0 := g4
  replace g5 : f 5 = .pref 3 0 0 := g5
  replace g6 : f 6 = .int .i64 (j : Nat) := g6
  simp only [g2, g3, g4, g5, g6]
  by_cases hj : j < 6
  · have hia := icells_at (r := a) (j := j) (by omega)
    have hib := icells_at (r := b) (j := j) (by omega)
    have hov := icells_over (r := w) (j := j) (by omega) (a.getD j 0 + b.getD j 0)
    have haj := ha j hj
    have hbj := hb j hj
    repeat' (first | (refine WO.opE (by intro; simp (disch := omega) only [go_sem, Zz.look, hia, hib, Nat.mul_one, Nat.zero_add]; rfl) (by simp only [pt8, pt0, pt1, pt2, pt3, pt4, pt5, pt6, pt7]; rfl) ?_) | (refine WO.opN (by intro; simp (disch := omega) only [go_sem, Zz.look, Option.bind_eq_bind, hov, Nat.zero_add, setBlk, List.set_cons_zero, List.set_cons_succ]; rfl) ?_) | (refine WC.seq ?_) | (refine WC.region ?_) | (refine WO.nil ?_) | (simp only [fl1, fl10]) | (refine WC.calm rfl ?_) | (refine WC.skip ?_) | (refine WC.block ?_) | (refine WC.em2 rfl (fun hp => ?_) (fun hp => ?_) <;> try (exfalso; first | omega | contradiction)))
    exact ⟨m - 1, by omega, _, j + 1, w.set j (a.getD j 0 + b.getD j 0), rfl, rfl, rfl, rfl, rfl, rfl, rfl, by omega, by simpa using hw6, fun t ht => by
      by_cases e : t = j
      · subst e; rw [getD_set_self (by omega)]
      · rw [getD_set_ne (by omega)]; exact hw1 t (by omega)⟩
  · have hje : j = 6 := by omega
    subst hje
    have hwe : w = addV a b := getD_ext (by rw [hw6]; simp [addV]) fun t ht => by rw [hw1 t (by omega), add_at (by omega)]
    subst hwe
    have hcw := icells_cut hw6
    have hmw : (icells (addV a b)).length = 6 := by rw [icells_len, hw6]
    have hov := fun x0 x1 x2 x3 x4 x5 => icells_over6 hw6 (x0 := x0) (x1 := x1) (x2 := x2) (x3 := x3) (x4 := x4) (x5 := x5)
    rw [hze]
    repeat' (first | (refine WO.opE (by intro; simp (disch := omega) only [go_sem, Zz.look, hcw]; rfl) (by simp only [pt8, pt0, pt1, pt5]; rfl) ?_) | (refine WO.opN (by intro; simp (disch := omega) only [go_sem, Zz.look, Option.bind_eq_bind, hmw, hov, setBlk, List.set_cons_zero, List.set_cons_succ]; rfl) ?_) | (refine WC.seq ?_) | (refine WC.region ?_) | (refine WO.nil ?_) | (simp only [fl1]) | (refine WC.no rfl ?_) | (refine WC.exit ?_) | (refine WC.ret ?_))
    exact ⟨_, by simp only [evRes, gt4, Zz.look, List.getElem?_cons_zero, List.getElem?_cons_succ, loadCs, hcw, if_true, Option.bind_some, Option.map_some]; rfl, rfl⟩
theorem s63 {a b : List Int} (ha6 : a.length = 6) (hb6 : b.length = 6) (ha : okB 1000 a) (hb : okB 1000 b) {m : Mem} : borrowE T21 63 [.agg (icells a), .agg (icells b)] m = some (.agg (icells (addV a b)), m) :=
  borrowE_of (pures_cons (pureI a) (pures_cons (pureI b) rfl)) ((f63 ha6 hb6 ha hb).mono fun y m' h => by rw [h]; simp only [Zz.resV, Zz.resA, resA_icells])
noncomputable def T22 : Env := T21.put 63 (borrowE T21 63)
theorem T22_ok : EnvOk Try.prog T22 := Env.put_ok T21_ok (borrowE_ok T21_ok (callable Try.func63 (by kernel_rfl)))
noncomputable def T23 : Env := T22.put 64 (borrowE T22 64)
theorem T23_ok : EnvOk Try.prog T23 := Env.put_ok T22_ok (borrowE_ok T22_ok (callable Try.func64 (by kernel_rfl)))
end Go.Proofs.Ytnilimjkibimcaa

