import Derived.Test.YtpddngcgajjacaaL29d
set_option linter.unusedSimpArgs false
set_option linter.unusedVariables false
namespace Go.Proofs.Ytpddngcgajjacaa
open Go.Zz

theorem hear_state {Γ : Env} (h26 : Spec26 Γ) {s ps : Int} {q : AV} {qs : List Int} (hs : Γ.spec 17 = none) (hf : Γ.fn 17 = some ir17) (hq : IntS q qs) (h1 : I64 s) (h2 : I64 ps) (hmax : qs.length < 9223372036854775808)
    (cV : 0 ≤ s ∧ s ≤ 1000 ∧ (qs.length : Int) ≤ 1000 - s) (c1 : ¬ ps < 0) (c2 : ¬ 1000 < ps) (c3 : (qs.length : Int) < ps - s) :
    WF Γ (.func 17 [] []) [.agg [.int .i64 s, q], .agg [.bool true, .int .i64 ps, .int .i64 0]] ⟨[], []⟩ fun y m' => resV m'.heap y = some (.tuple [.agg [.int .i64 0, .snil], .int .i64 6]) := by
  obtain ⟨S, hS, h26⟩ := h26
  have hw := wrap_id (n := ps - s) (by omega) (by omega)
  refine WF.fn hs hf (by show 2 ≤ 56; decide) ?_
  unfold ir17
  simp only [padTo, List.replicate, List.nil_append, List.append_nil, List.cons_append]
  refine WC.seq (WC.region ?_)
  repeat (first
    | (refine WO.yes rfl ?_)
    | (refine WO.no rfl ?_; simp only [pt])
    | (refine WO.op (by intro; simp only [go_sem, Zz.look, fillP, over, cut]; rfl) ?_; simp only [pt])
    | (refine WO.opN (by intro; simp only [go_sem, Zz.look, storeAt, over, setBlk, cut]; rfl) ?_))
  refine WO.nil ?_
  simp only [Then]
  refine WC.seq (WC.seq (WC.region ?_))
  refine WO.op (by intro; simp only [go_sem, Zz.look, cut, List.drop_zero]; rfl) ?_
  simp only [pt]
  refine WO.call rfl rfl (WF.spec hS (h26 s q qs _ hq h1 hmax) ?_)
  simp only [pt]
  repeat (first
    | (refine WO.yes rfl ?_)
    | (refine WO.no rfl ?_; simp only [pt])
    | (refine WO.op (by intro; simp only [go_sem, Zz.look, fillP, over, cut, cV, and_self, decide_true, c1, c2, decide_false, bne_self_eq_false]; rfl) ?_; simp only [pt])
    | (refine WO.opN (by intro; simp only [go_sem, Zz.look, storeAt, over, setBlk, cut, cV, and_self, decide_true, c1, c2, decide_false, bne_self_eq_false]; rfl) ?_))
  refine WO.nil ?_
  simp only [Then]
  refine WC.no (by simp only [go_sem]) (WC.skip ?_)
  simp only [Then]
  refine WC.seq (WC.region ?_)
  repeat (first
    | (refine WO.yes rfl ?_)
    | (refine WO.no rfl ?_; simp only [pt])
    | (refine WO.op (by intro; simp only [go_sem, Zz.look, fillP, over, cut, hw]; rfl) ?_; simp only [pt])
    | (refine WO.opN (by intro; simp only [go_sem, Zz.look, storeAt, over, setBlk, cut, hw]; rfl) ?_))
  refine WO.nil ?_
  simp only [Then]
  refine WC.seq (WC.block (WC.seq (WC.region ?_)))
  iterate 3
    refine WO.op (by intro; simp only [go_sem, Zz.look]; rfl) ?_
    simp only [pt]
  refine WO.op (by intro; rw [ev_lenS (n := qs.length) (by simp only [go_sem]; exact hq.len)]) ?_
  simp only [pt]
  repeat (first
    | (refine WO.yes rfl ?_)
    | (refine WO.no rfl ?_; simp only [pt])
    | (refine WO.op (by intro; simp only [go_sem, Zz.look, fillP, over, cut, c3, decide_true]; rfl) ?_; simp only [pt])
    | (refine WO.opN (by intro; simp only [go_sem, Zz.look, storeAt, over, setBlk, cut, c3, decide_true]; rfl) ?_))
  refine WO.nil ?_
  simp only [Then]
  refine WC.yes (by simp only [go_sem]) (WC.seq (WC.region ?_))
  repeat (first
    | (refine WO.yes rfl ?_)
    | (refine WO.no rfl ?_; simp only [pt])
    | (refine WO.op (by intro; simp only [go_sem, Zz.look, fillP, over, cut]; rfl) ?_; simp only [pt])
    | (refine WO.opN (by intro; simp only [go_sem, Zz.look, storeAt, over, setBlk, cut]; rfl) ?_))
  refine WO.nil ?_
  simp only [Then]
  refine WC.ret ?_
  exact ⟨_, rfl, rfl⟩
end Go.Proofs.Ytpddngcgajjacaa
