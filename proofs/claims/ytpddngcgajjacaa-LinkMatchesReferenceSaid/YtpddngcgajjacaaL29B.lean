import Derived.Test.YtpddngcgajjacaaL29A
set_option linter.unusedSimpArgs false
set_option linter.unusedVariables false
namespace Go.Proofs.Ytpddngcgajjacaa
open Go.Zz

/-- The functions' texts. -/
noncomputable def G0 : Env := { fn := fun g => (Try.prog.funcs[g]?).bind (cFunc Try.prog), spec := fun _ => none }

theorem G0_ok : EnvOk Try.prog G0 := by
  refine ⟨fun g ifn h => ?_, fun g S h => by cases h⟩
  simp only [G0, Option.bind_eq_some_iff] at h
  exact h

theorem fn_of {g : Nat} {f : Func} {i : IFunc} (hf : Try.prog.funcs[g]? = some f) (hc : cFunc Try.prog f = some i) : G0.fn g = some i := by
  simp only [G0, hf, Option.bind_some, hc]

/-- With some contracts. -/
noncomputable def withSpec (Γ : Env) (l : List (Nat × (List AV → Mem → Option (AV × Mem)))) : Env := { fn := G0.fn, spec := fun g => (l.find? fun p => p.1 == g).map (·.2) }

theorem withSpec_ok {l : List (Nat × (List AV → Mem → Option (AV × Mem)))} (h : ∀ p ∈ l, SpecOk Try.prog p.1 p.2) : EnvOk Try.prog (withSpec G0 l) := by
  refine ⟨G0_ok.fn, fun g S hS => ?_⟩
  simp only [withSpec, Option.map_eq_some_iff] at hS
  obtain ⟨p, hp, rfl⟩ := hS
  have h1 := List.mem_of_find?_eq_some hp
  have h2 := List.find?_some hp
  simp only [beq_iff_eq] at h2
  subst h2
  exact h p h1

noncomputable def Gh : Env := withSpec G0 [(26, borrowE G0 26), (28, borrowE G0 28)]
noncomputable def Gs : Env := withSpec G0 [(21, borrowE G0 21)]
noncomputable def G1 : Env := withSpec G0 [(10, borrowE G0 10), (13, borrowE Gs 13), (17, borrowE Gh 17), (21, borrowE G0 21)]

theorem callable {g : Nat} {f : Func} (hf : Try.prog.funcs[g]? = some f) (h : (f.name != "runtime.NumGoroutine" && f.body.isSome) = true) : Callable Try.prog g := by
  simp only [Bool.and_eq_true, bne_iff_ne, ne_eq] at h
  exact ⟨f, hf, h.1, h.2⟩

theorem Gh_ok : EnvOk Try.prog Gh := withSpec_ok fun p hp => by
  simp only [List.mem_cons, List.not_mem_nil, or_false] at hp
  rcases hp with rfl | rfl
  · exact borrowE_ok G0_ok (callable Try.func26 (by kernel_rfl))
  · exact borrowE_ok G0_ok (callable Try.func28 (by kernel_rfl))
theorem Gs_ok : EnvOk Try.prog Gs := withSpec_ok fun p hp => by
  simp only [List.mem_cons, List.not_mem_nil, or_false] at hp
  subst hp
  exact borrowE_ok G0_ok (callable Try.func21 (by kernel_rfl))
theorem G1_ok : EnvOk Try.prog G1 := withSpec_ok fun p hp => by
  simp only [List.mem_cons, List.not_mem_nil, or_false] at hp
  rcases hp with rfl | rfl | rfl | rfl
  · exact borrowE_ok G0_ok (callable Try.func10 (by kernel_rfl))
  · exact borrowE_ok Gs_ok (callable Try.func13 (by kernel_rfl))
  · exact borrowE_ok Gh_ok (callable Try.func17 (by kernel_rfl))
  · exact borrowE_ok G0_ok (callable Try.func21 (by kernel_rfl))

theorem flat_ints (xs : List Int) : (xs.map (AV.int .i64)).all flatAV = true := by
  induction xs with
  | nil => rfl
  | cons x r ih => simp [flatAV]

theorem IntS.pureC {x : AV} {xs : List Int} (h : IntS x xs) : Zz.pureC x = true := by
  rcases h with ⟨rfl, _⟩ | ⟨f, rfl⟩
  · rfl
  · exact flat_ints _

theorem IntS.pureA {x : AV} {xs : List Int} (h : IntS x xs) : Zz.pureA x = true := by
  rcases h with ⟨rfl, _⟩ | ⟨f, rfl⟩
  · rfl
  · exact flat_ints _

theorem spec21 : Spec21 Gs ∧ Spec21 G1 := by
  have key : ∀ a b xs ys m, IntS a xs → IntS b ys → xs.length < 9223372036854775808 → ys.length < 9223372036854775808 → borrowE G0 21 [a, b] m = some (.bool (decide (xs = ys)), m) := by
    intro a b xs ys m ha hb h1 h2
    refine borrowE_of ?_ ((ints_run (Γ := G0) rfl (fn_of Try.func21 cir21) ha hb h1 h2).mono fun y m' hy => by rw [hy]; rfl)
    simp [ha.pureA, hb.pureA]
  exact ⟨⟨_, rfl, key⟩, ⟨_, rfl, key⟩⟩

theorem spec26 : Spec26 Gh := by
  refine ⟨_, rfl, fun s q qs m hq h1 h2 => ?_⟩
  refine borrowE_of ?_ ((valid_run (Γ := G0) rfl (fn_of Try.func26 cir26) hq h1 h2).mono fun y m' hy => by rw [hy]; rfl)
  have e : Zz.pureC (.int .i64 s) = true := rfl
  simp [Zz.pureA, hq.pureC, e]

theorem spec28 : Spec28 Gh := by
  refine ⟨_, rfl, fun q qs hq h1 => ?_⟩
  obtain ⟨v, hv, h⟩ := clone_run (Γ := G0) rfl (fn_of Try.func28 cir28) hq h1
  refine ⟨v, hv, fun m => borrowE_of ?_ h⟩
  simp [hq.pureA]
end Go.Proofs.Ytpddngcgajjacaa

set_option linter.unusedSimpArgs false
set_option linter.unusedVariables false
namespace Go.Proofs.Ytpddngcgajjacaa
open Go.Zz

theorem IntS.resC {x : AV} {xs : List Int} (h : IntS x xs) (H : Hp) : Zz.resC H x = some x := by
  rcases h with ⟨rfl, _⟩ | ⟨f, rfl⟩
  · rfl
  · simp only [Zz.resC, flat_ints, if_true]

theorem pure17 {s ps bd : Int} {ack : Bool} {q : AV} {qs : List Int} (hq : IntS q qs) : [AV.agg [.int .i64 s, q], .agg [.bool ack, .int .i64 ps, .int .i64 bd]].all pureA = true := by
  have e1 : Zz.pureC (.int .i64 s) = true := rfl
  have e2 : Zz.pureC (.int .i64 ps) = true := rfl
  have e3 : Zz.pureC (.int .i64 bd) = true := rfl
  have e4 : Zz.pureC (.bool ack) = true := rfl
  simp [Zz.pureA, hq.pureC, e1, e2, e3, e4]

/-- link.Hear. -/
theorem spec17 {s ps bd : Int} {ack : Bool} {q : AV} {qs : List Int} (hq : IntS q qs) (h1 : I64 s) (h2 : I64 ps) (hmax : qs.length < 9223372036854775808) :
    (¬ ((0 ≤ s ∧ s ≤ 1000 ∧ (qs.length : Int) ≤ 1000 - s) ∧ ack = true ∧ bd = 0 ∧ 0 ≤ ps ∧ ps ≤ 1000) → ∀ m, borrowE Gh 17 [.agg [.int .i64 s, q], .agg [.bool ack, .int .i64 ps, .int .i64 bd]] m = some (.tuple [.agg [.int .i64 0, .snil], .int .i64 1], m)) ∧
    ((0 ≤ s ∧ s ≤ 1000 ∧ (qs.length : Int) ≤ 1000 - s) ∧ ack = true ∧ bd = 0 ∧ 0 ≤ ps ∧ ps ≤ 1000 → (qs.length : Int) < ps - s → ∀ m, borrowE Gh 17 [.agg [.int .i64 s, q], .agg [.bool ack, .int .i64 ps, .int .i64 bd]] m = some (.tuple [.agg [.int .i64 0, .snil], .int .i64 6], m)) ∧
    ((0 ≤ s ∧ s ≤ 1000 ∧ (qs.length : Int) ≤ 1000 - s) ∧ ack = true ∧ bd = 0 ∧ 0 ≤ ps ∧ ps ≤ 1000 → ¬ (qs.length : Int) < ps - s → ∃ v, IntS v (qs.drop (ps - s).toNat) ∧ ∀ m, borrowE Gh 17 [.agg [.int .i64 s, q], .agg [.bool ack, .int .i64 ps, .int .i64 bd]] m = some (.tuple [.agg [.int .i64 (s + (ps - s).toNat), v], .int .i64 0], m)) := by
  have hf : Gh.fn 17 = some ir17 := fn_of Try.func17 cir17
  refine ⟨fun hb m => borrowE_of (pure17 hq) (hear_bad spec26 rfl hf hq h1 h2 hmax hb), ?_, ?_⟩
  · rintro ⟨cV, rfl, rfl, c1, c2⟩ c3 m
    exact borrowE_of (pure17 hq) (hear_state spec26 rfl hf hq h1 h2 hmax cV (by omega) (by omega) c3)
  · rintro ⟨cV, rfl, rfl, c1, c2⟩ c3
    obtain ⟨v, hv, h⟩ := hear_good spec26 spec28 rfl hf hq h1 h2 hmax cV (by omega) (by omega) c3
    refine ⟨v, hv, fun m => borrowE_of (pure17 hq) (h.mono fun y m' hy => ?_)⟩
    rw [hy]
    have e1 : Zz.resC m'.heap (.int .i64 (s + (ps - s).toNat)) = some (.int .i64 (s + (ps - s).toNat)) := rfl
    have e2 : Zz.resC m'.heap (.int .i64 0) = some (.int .i64 0) := rfl
    simp only [resV, resT, resA, resL, e1, e2, hv.resC]

theorem spec13 {s k : Int} {q r : AV} {qs rs : List Int} (hq : IntS q qs) (hr : IntS r rs) (h1 : qs.length < 9223372036854775808) (h2 : rs.length < 9223372036854775808) (m : Mem) :
    borrowE Gs 13 [.agg [.int .i64 s, q], .int .i64 k, r] m = some (.bool (decide (s = k ∧ qs = rs)), m) := by
  refine borrowE_of ?_ ((sender_run spec21.1 rfl (fn_of Try.func13 cir13) hq hr h1 h2).mono fun y m' hy => by rw [hy]; rfl)
  have e1 : Zz.pureC (.int .i64 s) = true := rfl
  have e2 : Zz.pureA (.int .i64 k) = true := rfl
  have e3 : Zz.pureA (.agg [.int .i64 s, q]) = true := by simp [Zz.pureA, hq.pureC, e1]
  simp [e2, e3, hr.pureA]
end Go.Proofs.Ytpddngcgajjacaa

