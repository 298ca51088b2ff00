import Derived.Test.YtnilimjkibimcaaNk
import Derived.Test.YtnilimjkibimcaaPp
set_option linter.unusedSimpArgs false
set_option linter.unusedVariables false

namespace Go.Proofs.Ytnilimjkibimcaa
open Go.Zz
set_option maxRecDepth 100000
set_option maxHeartbeats 8000000
theorem f106 {a0 b0 : Nat} (ha : a0 ≤ 9000000000000000000) (hb : b0 ≤ 9000000000000000000) : WF E41 (.func 106 [] []) [.int .u64 (a0 : Nat), .int .u64 (b0 : Nat)] ⟨[], []⟩ fun y m' => y = .int .u64 ((Nat.gcd a0 b0 : Nat) : Int) := by
  refine WF.fnE rfl (fn_of Try.func106 cir106) (by show 2 ≤ 12; decide) ?_
  unfold ir106; dsimp only [k0, kI, mV, oO, oG]
  simp only [padTo, List.replicate, List.nil_append, List.append_nil]
  repeat' (first | (refine WO.opE (by intro; simp (disch := omega) only [go_sem]; rfl) (by simp only [pt4]; rfl) ?_) | (refine WC.seq ?_) | (refine WC.region ?_) | (refine WO.nil ?_) | (refine WC.block ?_))
  refine WC.loopI (fun m s => ∃ T a b, s = ⟨T, [], []⟩ ∧ T.length = 12 ∧ gt T 0 = .int .u64 (a : Nat) ∧ gt T 1 = .int .u64 (b : Nat) ∧ m = b ∧ a ≤ 9000000000000000000 ∧ b ≤ 9000000000000000000 ∧ Nat.gcd a b = Nat.gcd a0 b0) ?_ b0 _ ⟨_, a0, b0, rfl, rfl, rfl, rfl, rfl, ha, hb, rfl⟩
  rintro m _ ⟨T, a, b, rfl, hT, g0, g1, hmb, ha', hb', hg⟩
  obtain ⟨f, rfl⟩ := ex12 hT
  clear hT
  replace g0 : f 0 = .int .u64 (a : Nat) := g0
  replace g1 : f 1 = .int .u64 (b : Nat) := g1
  simp only [g0, g1]
  by_cases hb0 : b = 0
  · subst hb0
    rw [Nat.gcd_zero_right] at hg
    repeat' (first | (refine WO.opE (by intro; simp (disch := omega) only [go_sem]; rfl) (by simp only [pt8, pt3, pt4, pt5, pt6]; rfl) ?_) | (refine WC.seq ?_) | (refine WC.region ?_) | (refine WO.nil ?_) | (simp only [fl1]) | (refine WC.no rfl ?_) | (refine WC.exit ?_) | (refine WC.ret ?_))
    exact ⟨_, rfl, by show AV.int .u64 (a : Int) = _; rw [hg]⟩
  · have hrem : ((a : Nat) : Int).tmod (b : Int) = ((a % b : Nat) : Int) := by rw [Int.ofNat_tmod]
    have hlt := Nat.mod_lt a (show b > 0 by omega)
    have hb1 : ¬ (b : Int) = 0 := by omega
    have hgr : Nat.gcd b (a % b) = Nat.gcd a b := by rw [Nat.gcd_comm a b, Nat.gcd_rec b a, Nat.gcd_comm]
    repeat' (first | (refine WO.opE (by intro; simp (disch := omega) only [go_sem, hrem, hb1, if_false]; rfl) (by simp only [pt8, pt0, pt1, pt2, pt5, pt6, pt7]; rfl) ?_) | (refine WC.seq ?_) | (refine WC.region ?_) | (refine WO.nil ?_) | (simp only [fl1, fl4, fl10]) | (refine WC.calm rfl ?_) | (refine WC.yes rfl ?_) | (refine WC.skip ?_) | (refine WC.block ?_))
    exact ⟨a % b, by omega, _, b, a % b, rfl, rfl, rfl, rfl, rfl, by omega, by omega, by rw [hgr, hg]⟩
theorem s106 {a b : Nat} (ha : a ≤ 9000000000000000000) (hb : b ≤ 9000000000000000000) {m : Mem} : borrowE E41 106 [.int .u64 (a : Nat), .int .u64 (b : Nat)] m = some (.int .u64 ((Nat.gcd a b : Nat) : Int), m) :=
  borrowE_of rfl ((f106 ha hb).mono fun y m' h => by rw [h]; rfl)
noncomputable def C1 : Env := E41.put 106 (borrowE E41 106)
theorem C1_ok : EnvOk Try.prog C1 := Env.put_ok E41_ok (borrowE_ok E41_ok (callable Try.func106 (by kernel_rfl)))
theorem u64_neg {n : Int} (h : n < 0) (h2 : -9000000000000000000 ≤ n) : IntKind.u64.wrap (0 - IntKind.u64.wrap n) = -n := by
  simp [IntKind.wrap, IntKind.bits, IntKind.signed]
  omega
theorem f107 {n : Int} (hn : -9000000000000000000 ≤ n ∧ n ≤ 9000000000000000000) : WF C1 (.func 107 [] []) [.int .i64 n] ⟨[], []⟩ fun y m' => y = .int .u64 ((absI n).toNat : Nat) := by
  have habs : (((absI n).toNat : Nat) : Int) = absI n := Int.toNat_of_nonneg (absI_nn n)
  by_cases h0 : n < 0
  · have e : absI n = -n := if_pos h0
    have h1 := u64_neg h0 hn.1
    refine WF.fnE rfl (fn_of Try.func107 cir107) (by show 1 ≤ 10; decide) ?_
    unfold ir107; dsimp only [k0, kI, mV, oO, oG]
    simp only [padTo, List.replicate, List.nil_append, List.append_nil]
    repeat' (first | (refine WO.opE (by intro; simp (disch := omega) only [go_sem, h1]; rfl) (by simp only [pt2, pt3, pt4, pt5, pt6, pt7]; rfl) ?_) | (refine WC.seq ?_) | (refine WC.region ?_) | (refine WO.nil ?_) | (simp only [fl1, fl2]) | (refine WC.ret ?_) | (refine WC.em2 rfl (fun hp => ?_) (fun hp => ?_) <;> try (exfalso; first | omega | contradiction)))
    exact ⟨_, rfl, by rw [habs, e]; rfl⟩
  · have e : absI n = n := if_neg h0
    have h1 : IntKind.u64.wrap n = n := by
      simp [IntKind.wrap, IntKind.bits, IntKind.signed]
      omega
    refine WF.fnE rfl (fn_of Try.func107 cir107) (by show 1 ≤ 10; decide) ?_
    unfold ir107; dsimp only [k0, kI, mV, oO, oG]
    simp only [padTo, List.replicate, List.nil_append, List.append_nil]
    repeat' (first | (refine WO.opE (by intro; simp (disch := omega) only [go_sem, h1]; rfl) (by simp only [pt8, pt0, pt1, pt2, pt3, pt4]; rfl) ?_) | (refine WC.seq ?_) | (refine WC.region ?_) | (refine WO.nil ?_) | (simp only [fl1]) | (refine WC.skip ?_) | (refine WC.ret ?_) | (refine WC.em2 rfl (fun hp => ?_) (fun hp => ?_) <;> try (exfalso; first | omega | contradiction)))
    exact ⟨_, rfl, by rw [habs, e]; rfl⟩
theorem s107 {n : Int} (hn : -9000000000000000000 ≤ n ∧ n ≤ 9000000000000000000) {m : Mem} : borrowE C1 107 [.int .i64 n] m = some (.int .u64 ((absI n).toNat : Nat), m) :=
  borrowE_of rfl ((f107 hn).mono fun y m' h => by rw [h]; rfl)
noncomputable def C2 : Env := C1.put 107 (borrowE C1 107)
theorem C2_ok : EnvOk Try.prog C2 := Env.put_ok C1_ok (borrowE_ok C1_ok (callable Try.func107 (by kernel_rfl)))
end Go.Proofs.Ytnilimjkibimcaa

