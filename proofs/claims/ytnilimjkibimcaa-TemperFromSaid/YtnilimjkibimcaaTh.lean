import Derived.Test.YtnilimjkibimcaaTg
import Derived.Test.YtnilimjkibimcaaIrU
set_option linter.unusedSimpArgs false
set_option linter.unusedVariables false

namespace Go.Proofs.Ytnilimjkibimcaa
open Go.Zz
set_option maxRecDepth 100000
set_option maxHeartbeats 8000000
def negV (r : List Int) : List Int := r.map fun x => -x
def addV (a b : List Int) : List Int := (List.range 6).map fun j => a.getD j 0 + b.getD j 0
noncomputable def T21 : Env := T20.put 62 (borrowE T20 62)
theorem T21_ok : EnvOk Try.prog T21 := Env.put_ok T20_ok (borrowE_ok T20_ok (callable Try.func62 (by kernel_rfl)))
noncomputable def T22 : Env := T21.put 63 (borrowE T21 63)
theorem T22_ok : EnvOk Try.prog T22 := Env.put_ok T21_ok (borrowE_ok T21_ok (callable Try.func63 (by kernel_rfl)))
theorem f64 {a b : List Int} {A B : Int} (ha6 : a.length = 6) (hb6 : b.length = 6) (ha : okB A a) (hb : okB B b) (hAB : 0 ≤ A * B ∧ A * B ≤ 1000000000000000000) : WF T22 (.func 64 [] []) [.agg (icells a), .agg (icells b)] ⟨[], []⟩ fun y m' => y = .int .i64 (dotF a b) := by
  have hma : (icells a).length = 6 := by rw [icells_len, ha6]
  have hmb : (icells b).length = 6 := by rw [icells_len, hb6]
  refine WF.fnE rfl (fn_of Try.func64 cir64) (by show 2 ≤ 21; decide) ?_
  unfold ir64; dsimp only [k0, kI, mV, oO, oG]
  simp only [padTo, List.replicate, List.nil_append, List.append_nil]
  repeat' (first | (refine WO.opE (by intro; simp (disch := omega) only [go_sem, List.cons_append, List.nil_append]; rfl) (by simp only [pt2, pt3, pt4, pt5, pt6]; rfl) ?_) | (refine WC.seq ?_) | (refine WC.region ?_) | (refine WO.nil ?_) | (simp only [fl1]) | (refine WC.block ?_))
  refine WC.loopI (fun m s => ∃ T j, s = ⟨T, [some ⟨0, icells a⟩, some ⟨0, icells b⟩], []⟩ ∧ T.length = 21 ∧ gt T 2 = .pref 0 0 0 ∧ gt T 3 = .pref 1 0 0 ∧ gt T 5 = .int .i64 (dotN a b j) ∧ gt T 6 = .int .i64 (j : Nat) ∧ m + j = 6) ?_ 6 _ ⟨_, 0, rfl, rfl, rfl, rfl, rfl, rfl, by omega⟩
  rintro m _ ⟨T, j, rfl, hT, g2, g3, g5, g6, hm⟩
  obtain ⟨f, rfl⟩ := ex21 hT
  clear hT
  replace g2 : f 2 = .pref 0 0 0 := g2
  replace g3 : f 3 = .pref 1 0 0 := g3
  replace g5 : f 5 = .int .i64 (dotN a b j) := g5
  replace g6 : f 6 = .int .i64 (j : Nat) := g6
  simp only [g2, g3, g5, g6]
  by_cases hj : j < 6
  · have hia := icells_at (r := a) (j := j) (by omega)
    have hib := icells_at (r := b) (j := j) (by omega)
    have b1 := dot_bd ha hb j (by omega)
    have b2 := dot_bd ha hb (j + 1) (by omega)
    have b3 := mul_bb (ha j hj) (hb j hj)
    have b4 : (j : Int) * (A * B) ≤ 6 * (A * B) := Int.mul_le_mul_of_nonneg_right (by omega) hAB.1
    have b5 : ((j + 1 : Nat) : Int) * (A * B) ≤ 6 * (A * B) := Int.mul_le_mul_of_nonneg_right (by omega) hAB.1
    have hd : dotN a b (j + 1) = dotN a b j + a.getD j 0 * b.getD j 0 := rfl
    generalize ((j + 1 : Nat) : Int) * (A * B) = P2 at *
    generalize (j : Int) * (A * B) = P1 at *
    generalize A * B = P at *
    repeat' (first | (refine WO.opE (by intro; simp (disch := omega) only [go_sem, Zz.look, hia, hib, ← hd, Nat.mul_one, Nat.zero_add]; rfl) (by simp only [pt8, pt0, pt1, pt2, pt3, pt4, pt5, pt6, pt7]; rfl) ?_) | (refine WC.seq ?_) | (refine WC.region ?_) | (refine WO.nil ?_) | (simp only [fl1, fl10]) | (refine WC.calm rfl ?_) | (refine WC.skip ?_) | (refine WC.block ?_) | (refine WC.em2 rfl (fun hp => ?_) (fun hp => ?_) <;> try (exfalso; first | omega | contradiction)))
    exact ⟨m - 1, by omega, _, j + 1, rfl, rfl, rfl, rfl, rfl, rfl, by omega⟩
  · have hje : j = 6 := by omega
    subst hje
    repeat' (first | (refine WO.opE (by intro; simp (disch := omega) only [go_sem]; rfl) (by simp only [pt8, pt0, pt4, pt7]; rfl) ?_) | (refine WC.seq ?_) | (refine WC.region ?_) | (refine WO.nil ?_) | (simp only [fl1]) | (refine WC.no rfl ?_) | (refine WC.exit ?_) | (refine WC.ret ?_))
    exact ⟨_, rfl, rfl⟩
theorem s64 {a b : List Int} {A B : Int} (ha6 : a.length = 6) (hb6 : b.length = 6) (ha : okB A a) (hb : okB B b) (hAB : 0 ≤ A * B ∧ A * B ≤ 1000000000000000000) {m : Mem} : borrowE T22 64 [.agg (icells a), .agg (icells b)] m = some (.int .i64 (dotF a b), m) :=
  borrowE_of (pures_cons (pureI a) (pures_cons (pureI b) rfl)) ((f64 ha6 hb6 ha hb hAB).mono fun y m' h => by rw [h]; rfl)
noncomputable def T23 : Env := T22.put 64 (borrowE T22 64)
theorem T23_ok : EnvOk Try.prog T23 := Env.put_ok T22_ok (borrowE_ok T22_ok (callable Try.func64 (by kernel_rfl)))
end Go.Proofs.Ytnilimjkibimcaa

