import Derived.Test.YtpddngcgajjacaaL29
set_option linter.unusedSimpArgs false
set_option linter.unusedVariables false
namespace Go.Proofs.Ytpddngcgajjacaa
open Go.Zz

def I64 (n : Int) : Prop := -9223372036854775808 ≤ n ∧ n ≤ 9223372036854775807

theorem valid_run {Γ : Env} {s : Int} {q : AV} {qs : List Int} (hs : Γ.spec 26 = none) (hf : Γ.fn 26 = some ir26) (hq : IntS q qs) (h1 : I64 s) (hmax : qs.length < 9223372036854775808) :
    WF Γ (.func 26 [] []) [.agg [.int .i64 s, q]] ⟨[], []⟩ fun y m' => y = .bool (decide (0 ≤ s ∧ s ≤ 1000 ∧ (qs.length : Int) ≤ 1000 - s)) := by
  refine WF.fn hs hf (by show 1 ≤ 20; decide) ?_
  unfold ir26
  simp only [padTo, List.replicate, List.nil_append, List.append_nil, List.cons_append]
  refine WC.seq (WC.region ?_)
  refine WO.op (by intro; simp only [go_sem]; rfl) ?_
  simp only [pt]
  refine WO.op (by intro; simp only [go_sem]; rfl) ?_
  simp only [pt]
  refine WO.nil ?_
  simp only [Then]
  refine WC.seq (WC.region ?_)
  by_cases c1 : 0 ≤ s
  · iterate 4
      refine WO.op (by intro; simp only [go_sem, c1, decide_true]; rfl) ?_
      simp only [pt]
    by_cases c2 : s ≤ 1000
    · iterate 3
        refine WO.yes (by simp only [gt]) ?_
        refine WO.op (by intro; simp only [go_sem, c2, decide_true]; rfl) ?_
        simp only [pt]
      iterate 2
        refine WO.op (by intro; simp only [go_sem]; rfl) ?_
        simp only [pt]
      have hw := wrap_id (n := 1000 - s) (by omega) (by omega)
      iterate 2
        refine WO.yes (by simp only [gt]) ?_
        refine WO.op (by intro; simp only [go_sem]; rfl) ?_
        simp only [pt]
      refine WO.yes (by simp only [gt]) ?_
      refine WO.op (by intro; rw [ev_lenS (n := qs.length) (by simp only [go_sem]; exact hq.len)]) ?_
      simp only [pt]
      iterate 4
        refine WO.yes (by simp only [gt]) ?_
        refine WO.op (by intro; simp only [go_sem, hw]; rfl) ?_
        simp only [pt]
      iterate 2
        refine WO.op (by intro; simp only [go_sem]; rfl) ?_
        simp only [pt]
      refine WO.nil ?_
      simp only [Then]
      refine WC.ret ?_
      refine ⟨_, rfl, ?_⟩
      simp [oneRes, gt, c1, c2]
    · iterate 3
        refine WO.yes (by simp only [gt]) ?_
        refine WO.op (by intro; simp only [go_sem, c2, decide_false]; rfl) ?_
        simp only [pt]
      iterate 2
        refine WO.op (by intro; simp only [go_sem]; rfl) ?_
        simp only [pt]
      iterate 7
        refine WO.no (by simp only [gt, Bool.not_true]) ?_
        simp only [pt]
      iterate 2
        refine WO.op (by intro; simp only [go_sem]; rfl) ?_
        simp only [pt]
      refine WO.nil ?_
      simp only [Then]
      refine WC.ret ?_
      refine ⟨_, rfl, ?_⟩
      simp [oneRes, gt, c1, c2]
  · iterate 4
      refine WO.op (by intro; simp only [go_sem, c1, decide_false]; rfl) ?_
      simp only [pt]
    iterate 3
      refine WO.no (by simp only [gt, Bool.not_true]) ?_
      simp only [pt]
    iterate 2
      refine WO.op (by intro; simp only [go_sem]; rfl) ?_
      simp only [pt]
    iterate 7
      refine WO.no (by simp only [gt, Bool.not_true]) ?_
      simp only [pt]
    iterate 2
      refine WO.op (by intro; simp only [go_sem]; rfl) ?_
      simp only [pt]
    refine WO.nil ?_
    simp only [Then]
    refine WC.ret ?_
    refine ⟨_, rfl, ?_⟩
    simp [oneRes, gt, c1]

/-- slices.Clone. -/
theorem clone_run {Γ : Env} {q : AV} {qs : List Int} (hs : Γ.spec 28 = none) (hf : Γ.fn 28 = some ir28) (hq : IntS q qs) (hmax : qs.length ≤ 2000) :
    ∃ v, IntS v qs ∧ WF Γ (.func 28 [] []) [q] ⟨[], []⟩ fun y m' => resV m'.heap y = some v := by
  rcases hq with ⟨rfl, rfl⟩ | ⟨full, rfl⟩
  · refine ⟨.snil, .inl ⟨rfl, rfl⟩, WF.fn hs hf (by show 1 ≤ 8; decide) ?_⟩
    unfold ir28
    simp only [padTo, List.replicate, List.nil_append, List.append_nil, List.cons_append]
    refine WC.seq (WC.region ?_)
    refine WO.op (by intro; simp only [go_sem]; rfl) ?_
    simp only [pt]
    refine WO.nil ?_
    simp only [Then]
    refine WC.seq (WC.seq (WC.region ?_))
    refine WO.op (by intro; simp only [go_sem]; rfl) ?_
    simp only [pt]
    refine WO.op (by intro; simp only [go_sem, nilEqAV]; rfl) ?_
    simp only [pt]
    refine WO.nil ?_
    simp only [Then]
    refine WC.yes (by simp only [go_sem]) (WC.seq (WC.region ?_))
    refine WO.op (by intro; simp only [go_sem]; rfl) ?_
    simp only [pt]
    refine WO.nil ?_
    simp only [Then]
    refine WC.ret ?_
    exact ⟨_, rfl, rfl⟩
  · refine ⟨.sval (qs.length == 0) qs.length (qs.map (.int .i64)), .inr ⟨_, rfl⟩, WF.fn hs hf (by show 1 ≤ 8; decide) ?_⟩
    unfold ir28
    simp only [padTo, List.replicate, List.nil_append, List.append_nil, List.cons_append]
    refine WC.seq (WC.region ?_)
    refine WO.op (by intro; simp only [go_sem]; rfl) ?_
    simp only [pt]
    refine WO.nil ?_
    simp only [Then]
    refine WC.seq (WC.seq (WC.region ?_))
    refine WO.op (by intro; simp only [go_sem]; rfl) ?_
    simp only [pt]
    refine WO.op (by intro; simp only [go_sem, nilEqAV]; rfl) ?_
    simp only [pt]
    refine WO.nil ?_
    simp only [Then]
    refine WC.no (by simp only [go_sem]) (WC.skip ?_)
    simp only [Then]
    refine WC.seq (WC.region ?_)
    refine WO.op (by intro; simp only [go_sem, fillP, zeros]; rfl) ?_
    simp only [pt]
    refine WO.op (by intro; simp only [go_sem]; rfl) ?_
    simp only [pt]
    cases qs with
    | nil =>
      refine WO.op (by intro; simp only [go_sem, appendAV]; rfl) ?_
      simp only [pt]
      refine WO.op (by intro; simp only [go_sem]; rfl) ?_
      simp only [pt]
      refine WO.nil ?_
      simp only [Then]
      refine WC.ret ?_
      exact ⟨_, rfl, rfl⟩
    | cons x r =>
      have e : appendAV 1 8 ⟨[some ⟨0, []⟩], []⟩ (.sref 0 0 0 1 0 (some 0)) (.sval full (x :: r).length ((x :: r).map (.int .i64))) = some (.sref 1 0 0 1 (x :: r).length none, ⟨[some ⟨0, []⟩, some ⟨0, (x :: r).map (.int .i64)⟩], []⟩) := by
        simp only [List.length_cons] at hmax
        unfold appendAV
        simp only [scells, slen, List.length_map, List.length_cons, Nat.mul_one, if_true, Option.bind_eq_bind, Option.bind_some, Zz.look, List.getElem?_cons_zero, cut, Nat.zero_mul, Nat.zero_add, List.length_nil, Nat.le_refl, Nat.zero_le, List.drop_zero, List.take_zero]
        rw [if_neg (by omega), if_pos (by omega)]
        simp [newBlk]
      refine WO.op (by intro; rw [ev_append]; simp only [go_sem]; exact e) ?_
      simp only [pt]
      refine WO.op (by intro; simp only [go_sem]; rfl) ?_
      simp only [pt]
      refine WO.nil ?_
      simp only [Then]
      refine WC.ret ?_
      refine ⟨_, rfl, ?_⟩
      simp [oneRes, gt, resV, resA, resC, Zz.look, cut, flatAV, St.mem, List.take_of_length_le]
end Go.Proofs.Ytpddngcgajjacaa
