import Derived.Test.YtpddngcgajjacaaL29b
set_option linter.unusedSimpArgs false
set_option linter.unusedVariables false
namespace Go.Proofs.Ytpddngcgajjacaa
open Go.Zz

def Spec26 (Γ : Env) : Prop := ∃ S, Γ.spec 26 = some S ∧ ∀ s q qs m, IntS q qs → I64 s → qs.length < 9223372036854775808 → S [.agg [.int .i64 s, q]] m = some (.bool (decide (0 ≤ s ∧ s ≤ 1000 ∧ (qs.length : Int) ≤ 1000 - s)), m)
def Spec28 (Γ : Env) : Prop := ∃ S, Γ.spec 28 = some S ∧ ∀ q qs, IntS q qs → qs.length ≤ 2000 → ∃ v, IntS v qs ∧ ∀ m, S [q] m = some (v, m)

theorem hear_bad {Γ : Env} (h26 : Spec26 Γ) {s ps bd : Int} {ack : Bool} {q : AV} {qs : List Int} (hs : Γ.spec 17 = none) (hf : Γ.fn 17 = some ir17) (hq : IntS q qs) (h1 : I64 s) (h2 : I64 ps) (hmax : qs.length < 9223372036854775808)
    (hbad : ¬ ((0 ≤ s ∧ s ≤ 1000 ∧ (qs.length : Int) ≤ 1000 - s) ∧ ack = true ∧ bd = 0 ∧ 0 ≤ ps ∧ ps ≤ 1000)) :
    WF Γ (.func 17 [] []) [.agg [.int .i64 s, q], .agg [.bool ack, .int .i64 ps, .int .i64 bd]] ⟨[], []⟩ fun y m' => resV m'.heap y = some (.tuple [.agg [.int .i64 0, .snil], .int .i64 1]) := by
  obtain ⟨S, hS, h26⟩ := h26
  refine WF.fn hs hf (by show 2 ≤ 56; decide) ?_
  unfold ir17
  simp only [padTo, List.replicate, List.nil_append, List.append_nil, List.cons_append]
  refine WC.seq (WC.region ?_)
  repeat (first
    | (refine WO.yes rfl ?_)
    | (refine WO.no rfl ?_; simp only [pt])
    | (refine WO.op (by intro; simp only [go_sem, Zz.look, fillP, over, cut]; rfl) ?_; simp only [pt])
    | (refine WO.opN (by intro; simp only [go_sem, Zz.look, storeAt, over, setBlk, cut]; rfl) ?_))
  refine WO.nil ?_
  simp only [Then]
  refine WC.seq (WC.seq (WC.region ?_))
  refine WO.op (by intro; simp only [go_sem, Zz.look, cut, List.drop_zero]; rfl) ?_
  simp only [pt]
  refine WO.call rfl rfl (WF.spec hS (h26 s q qs _ hq h1 hmax) ?_)
  simp only [pt]
  by_cases cV : 0 ≤ s ∧ s ≤ 1000 ∧ (qs.length : Int) ≤ 1000 - s
  · cases ack with
    | false =>
      repeat (first
        | (refine WO.yes rfl ?_)
        | (refine WO.no rfl ?_; simp only [pt])
        | (refine WO.op (by intro; simp only [go_sem, Zz.look, fillP, over, cut, cV, and_self, decide_true]; rfl) ?_; simp only [pt])
        | (refine WO.opN (by intro; simp only [go_sem, Zz.look, storeAt, over, setBlk, cut, cV, and_self, decide_true]; rfl) ?_))
      refine WO.nil ?_
      simp only [Then]
      refine WC.yes (by simp only [go_sem]) (WC.seq (WC.region ?_))
      repeat (first
        | (refine WO.yes rfl ?_)
        | (refine WO.no rfl ?_; simp only [pt])
        | (refine WO.op (by intro; simp only [go_sem, Zz.look, fillP, over, cut]; rfl) ?_; simp only [pt])
        | (refine WO.opN (by intro; simp only [go_sem, Zz.look, storeAt, over, setBlk, cut]; rfl) ?_))
      refine WO.nil ?_
      simp only [Then]
      refine WC.ret ?_
      exact ⟨_, rfl, rfl⟩
    | true =>
      by_cases cb : bd = 0
      · subst cb
        by_cases c1 : ps < 0
        · repeat (first
            | (refine WO.yes rfl ?_)
            | (refine WO.no rfl ?_; simp only [pt])
            | (refine WO.op (by intro; simp only [go_sem, Zz.look, fillP, over, cut, cV, and_self, decide_true, c1, bne_self_eq_false]; rfl) ?_; simp only [pt])
            | (refine WO.opN (by intro; simp only [go_sem, Zz.look, storeAt, over, setBlk, cut, cV, and_self, decide_true, c1, bne_self_eq_false]; rfl) ?_))
          refine WO.nil ?_
          simp only [Then]
          refine WC.yes (by simp only [go_sem]) (WC.seq (WC.region ?_))
          repeat (first
            | (refine WO.yes rfl ?_)
            | (refine WO.no rfl ?_; simp only [pt])
            | (refine WO.op (by intro; simp only [go_sem, Zz.look, fillP, over, cut]; rfl) ?_; simp only [pt])
            | (refine WO.opN (by intro; simp only [go_sem, Zz.look, storeAt, over, setBlk, cut]; rfl) ?_))
          refine WO.nil ?_
          simp only [Then]
          refine WC.ret ?_
          exact ⟨_, rfl, rfl⟩
        · by_cases c2 : 1000 < ps
          · repeat (first
              | (refine WO.yes rfl ?_)
              | (refine WO.no rfl ?_; simp only [pt])
              | (refine WO.op (by intro; simp only [go_sem, Zz.look, fillP, over, cut, cV, and_self, decide_true, c1, c2, decide_false, bne_self_eq_false]; rfl) ?_; simp only [pt])
              | (refine WO.opN (by intro; simp only [go_sem, Zz.look, storeAt, over, setBlk, cut, cV, and_self, decide_true, c1, c2, decide_false, bne_self_eq_false]; rfl) ?_))
            refine WO.nil ?_
            simp only [Then]
            refine WC.yes (by simp only [go_sem]) (WC.seq (WC.region ?_))
            repeat (first
              | (refine WO.yes rfl ?_)
              | (refine WO.no rfl ?_; simp only [pt])
              | (refine WO.op (by intro; simp only [go_sem, Zz.look, fillP, over, cut]; rfl) ?_; simp only [pt])
              | (refine WO.opN (by intro; simp only [go_sem, Zz.look, storeAt, over, setBlk, cut]; rfl) ?_))
            refine WO.nil ?_
            simp only [Then]
            refine WC.ret ?_
            exact ⟨_, rfl, rfl⟩
          · exact absurd ⟨cV, rfl, rfl, by omega, by omega⟩ hbad
      · have cb' : (bd != 0) = true := by simpa using cb
        repeat (first
          | (refine WO.yes rfl ?_)
          | (refine WO.no rfl ?_; simp only [pt])
          | (refine WO.op (by intro; simp only [go_sem, Zz.look, fillP, over, cut, cV, and_self, decide_true, cb']; rfl) ?_; simp only [pt])
          | (refine WO.opN (by intro; simp only [go_sem, Zz.look, storeAt, over, setBlk, cut, cV, and_self, decide_true, cb']; rfl) ?_))
        refine WO.nil ?_
        simp only [Then]
        refine WC.yes (by simp only [go_sem]) (WC.seq (WC.region ?_))
        repeat (first
          | (refine WO.yes rfl ?_)
          | (refine WO.no rfl ?_; simp only [pt])
          | (refine WO.op (by intro; simp only [go_sem, Zz.look, fillP, over, cut]; rfl) ?_; simp only [pt])
          | (refine WO.opN (by intro; simp only [go_sem, Zz.look, storeAt, over, setBlk, cut]; rfl) ?_))
        refine WO.nil ?_
        simp only [Then]
        refine WC.ret ?_
        exact ⟨_, rfl, rfl⟩
  · repeat (first
      | (refine WO.yes rfl ?_)
      | (refine WO.no rfl ?_; simp only [pt])
      | (refine WO.op (by intro; simp only [go_sem, Zz.look, fillP, over, cut, cV, decide_false]; rfl) ?_; simp only [pt])
      | (refine WO.opN (by intro; simp only [go_sem, Zz.look, storeAt, over, setBlk, cut, cV, decide_false]; rfl) ?_))
    refine WO.nil ?_
    simp only [Then]
    refine WC.yes (by simp only [go_sem]) (WC.seq (WC.region ?_))
    repeat (first
      | (refine WO.yes rfl ?_)
      | (refine WO.no rfl ?_; simp only [pt])
      | (refine WO.op (by intro; simp only [go_sem, Zz.look, fillP, over, cut]; rfl) ?_; simp only [pt])
      | (refine WO.opN (by intro; simp only [go_sem, Zz.look, storeAt, over, setBlk, cut]; rfl) ?_))
    refine WO.nil ?_
    simp only [Then]
    refine WC.ret ?_
    exact ⟨_, rfl, rfl⟩
end Go.Proofs.Ytpddngcgajjacaa
