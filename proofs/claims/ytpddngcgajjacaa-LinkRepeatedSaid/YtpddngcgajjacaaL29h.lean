import Derived.Test.YtpddngcgajjacaaL29g
set_option linter.unusedSimpArgs false
set_option linter.unusedVariables false
namespace Go.Proofs.Ytpddngcgajjacaa
open Go.Zz

theorem IntS.resC {x : AV} {xs : List Int} (h : IntS x xs) (H : Hp) : Zz.resC H x = some x := by
  rcases h with ⟨rfl, _⟩ | ⟨f, rfl⟩
  · rfl
  · simp only [Zz.resC, flat_ints, if_true]

theorem pure17 {s ps bd : Int} {ack : Bool} {q : AV} {qs : List Int} (hq : IntS q qs) : [AV.agg [.int .i64 s, q], .agg [.bool ack, .int .i64 ps, .int .i64 bd]].all pureA = true := by
  have e1 : Zz.pureC (.int .i64 s) = true := rfl
  have e2 : Zz.pureC (.int .i64 ps) = true := rfl
  have e3 : Zz.pureC (.int .i64 bd) = true := rfl
  have e4 : Zz.pureC (.bool ack) = true := rfl
  simp [Zz.pureA, hq.pureC, e1, e2, e3, e4]

/-- link.Hear. -/
theorem spec17 {s ps bd : Int} {ack : Bool} {q : AV} {qs : List Int} (hq : IntS q qs) (h1 : I64 s) (h2 : I64 ps) (hmax : qs.length < 9223372036854775808) :
    (¬ ((0 ≤ s ∧ s ≤ 1000 ∧ (qs.length : Int) ≤ 1000 - s) ∧ ack = true ∧ bd = 0 ∧ 0 ≤ ps ∧ ps ≤ 1000) → ∀ m, borrowE Gh 17 [.agg [.int .i64 s, q], .agg [.bool ack, .int .i64 ps, .int .i64 bd]] m = some (.tuple [.agg [.int .i64 0, .snil], .int .i64 1], m)) ∧
    ((0 ≤ s ∧ s ≤ 1000 ∧ (qs.length : Int) ≤ 1000 - s) ∧ ack = true ∧ bd = 0 ∧ 0 ≤ ps ∧ ps ≤ 1000 → (qs.length : Int) < ps - s → ∀ m, borrowE Gh 17 [.agg [.int .i64 s, q], .agg [.bool ack, .int .i64 ps, .int .i64 bd]] m = some (.tuple [.agg [.int .i64 0, .snil], .int .i64 6], m)) ∧
    ((0 ≤ s ∧ s ≤ 1000 ∧ (qs.length : Int) ≤ 1000 - s) ∧ ack = true ∧ bd = 0 ∧ 0 ≤ ps ∧ ps ≤ 1000 → ¬ (qs.length : Int) < ps - s → ∃ v, IntS v (qs.drop (ps - s).toNat) ∧ ∀ m, borrowE Gh 17 [.agg [.int .i64 s, q], .agg [.bool ack, .int .i64 ps, .int .i64 bd]] m = some (.tuple [.agg [.int .i64 (s + (ps - s).toNat), v], .int .i64 0], m)) := by
  have hf : Gh.fn 17 = some ir17 := fn_of Try.func17 cir17
  refine ⟨fun hb m => borrowE_of (pure17 hq) (hear_bad spec26 rfl hf hq h1 h2 hmax hb), ?_, ?_⟩
  · rintro ⟨cV, rfl, rfl, c1, c2⟩ c3 m
    exact borrowE_of (pure17 hq) (hear_state spec26 rfl hf hq h1 h2 hmax cV (by omega) (by omega) c3)
  · rintro ⟨cV, rfl, rfl, c1, c2⟩ c3
    obtain ⟨v, hv, h⟩ := hear_good spec26 spec28 rfl hf hq h1 h2 hmax cV (by omega) (by omega) c3
    refine ⟨v, hv, fun m => borrowE_of (pure17 hq) (h.mono fun y m' hy => ?_)⟩
    rw [hy]
    have e1 : Zz.resC m'.heap (.int .i64 (s + (ps - s).toNat)) = some (.int .i64 (s + (ps - s).toNat)) := rfl
    have e2 : Zz.resC m'.heap (.int .i64 0) = some (.int .i64 0) := rfl
    simp only [resV, resT, resA, resL, e1, e2, hv.resC]

theorem spec13 {s k : Int} {q r : AV} {qs rs : List Int} (hq : IntS q qs) (hr : IntS r rs) (h1 : qs.length < 9223372036854775808) (h2 : rs.length < 9223372036854775808) (m : Mem) :
    borrowE Gs 13 [.agg [.int .i64 s, q], .int .i64 k, r] m = some (.bool (decide (s = k ∧ qs = rs)), m) := by
  refine borrowE_of ?_ ((sender_run spec21.1 rfl (fn_of Try.func13 cir13) hq hr h1 h2).mono fun y m' hy => by rw [hy]; rfl)
  have e1 : Zz.pureC (.int .i64 s) = true := rfl
  have e2 : Zz.pureA (.int .i64 k) = true := rfl
  have e3 : Zz.pureA (.agg [.int .i64 s, q]) = true := by simp [Zz.pureA, hq.pureC, e1]
  simp [e2, e3, hr.pureA]
end Go.Proofs.Ytpddngcgajjacaa
