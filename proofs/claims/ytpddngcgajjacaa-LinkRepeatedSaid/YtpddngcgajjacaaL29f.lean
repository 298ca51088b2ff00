import Derived.Test.YtpddngcgajjacaaL29e
set_option linter.unusedSimpArgs false
set_option linter.unusedVariables false
namespace Go.Proofs.Ytpddngcgajjacaa
open Go.Zz

def Spec21 (Γ : Env) : Prop := ∃ S, Γ.spec 21 = some S ∧ ∀ a b xs ys m, IntS a xs → IntS b ys → xs.length < 9223372036854775808 → ys.length < 9223372036854775808 → S [a, b] m = some (.bool (decide (xs = ys)), m)

theorem sender_run {Γ : Env} (h21 : Spec21 Γ) {s k : Int} {q r : AV} {qs rs : List Int} (hs : Γ.spec 13 = none) (hf : Γ.fn 13 = some ir13) (hq : IntS q qs) (hr : IntS r rs) (h1 : qs.length < 9223372036854775808) (h2 : rs.length < 9223372036854775808) :
    WF Γ (.func 13 [] []) [.agg [.int .i64 s, q], .int .i64 k, r] ⟨[], []⟩ fun y m' => y = .bool (decide (s = k ∧ qs = rs)) := by
  obtain ⟨S, hS, h21⟩ := h21
  refine WF.fn hs hf (by show 3 ≤ 17; decide) ?_
  unfold ir13
  simp only [padTo, List.replicate, List.nil_append, List.append_nil, List.cons_append]
  refine WC.seq (WC.region ?_)
  repeat (first
    | (refine WO.yes rfl ?_)
    | (refine WO.no rfl ?_; simp only [pt])
    | (refine WO.op (by intro; simp only [go_sem, Zz.look, fillP, over, cut]; rfl) ?_; simp only [pt])
    | (refine WO.opN (by intro; simp only [go_sem, Zz.look, storeAt, over, setBlk, cut]; rfl) ?_))
  refine WO.nil ?_
  simp only [Then]
  refine WC.seq (WC.region ?_)
  by_cases c : s = k
  · subst c
    iterate 5
      refine WO.op (by intro; simp only [go_sem, Zz.look]; rfl) ?_
      simp only [pt]
    iterate 3
      refine WO.yes rfl ?_
      refine WO.op (by intro; simp only [go_sem, Zz.look]; rfl) ?_
      simp only [pt]
    refine WO.yes rfl ?_
    refine WO.call rfl rfl (WF.spec hS (h21 q r qs rs _ hq hr h1 h2) ?_)
    simp only [pt]
    repeat (first
      | (refine WO.yes rfl ?_)
      | (refine WO.no rfl ?_; simp only [pt])
      | (refine WO.op (by intro; simp only [go_sem, Zz.look, fillP, over, cut]; rfl) ?_; simp only [pt])
      | (refine WO.opN (by intro; simp only [go_sem, Zz.look, storeAt, over, setBlk, cut]; rfl) ?_))
    refine WO.nil ?_
    simp only [Then]
    refine WC.ret ?_
    refine ⟨_, rfl, ?_⟩
    simp [oneRes, gt]
  · have c' : (s == k) = false := by simpa using c
    repeat (first
      | (refine WO.yes rfl ?_)
      | (refine WO.no rfl ?_; simp only [pt])
      | (refine WO.op (by intro; simp only [go_sem, Zz.look, fillP, over, cut, c']; rfl) ?_; simp only [pt])
      | (refine WO.opN (by intro; simp only [go_sem, Zz.look, storeAt, over, setBlk, cut, c']; rfl) ?_))
    refine WO.nil ?_
    simp only [Then]
    refine WC.ret ?_
    refine ⟨_, rfl, ?_⟩
    simp [oneRes, gt, c]
end Go.Proofs.Ytpddngcgajjacaa
