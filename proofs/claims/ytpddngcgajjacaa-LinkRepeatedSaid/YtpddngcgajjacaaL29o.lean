import Derived.Test.YtpddngcgajjacaaL29n
set_option linter.unusedSimpArgs false
set_option linter.unusedVariables false
namespace Go.Proofs.Ytpddngcgajjacaa
open Go.Zz


/-- A copy, in its own memory. -/
def Cloned (H : Hp) (v : AV) (qs : List Int) (bl : Hp) : Prop :=
  (v = .snil ∧ qs = [] ∧ bl = []) ∨ (v = .sref H.length 0 0 1 0 (some 0) ∧ qs = [] ∧ bl = [some ⟨0, []⟩]) ∨ (0 < qs.length ∧ v = .sref (H.length + 1) 0 0 1 qs.length none ∧ bl = [some ⟨0, []⟩, some ⟨0, qs.map (.int .i64)⟩])

theorem clone_at {Γ : Env} {q : AV} {qs : List Int} (hs : Γ.spec 28 = none) (hf : Γ.fn 28 = some ir28) (hq : IntS q qs) (hmax : qs.length ≤ 2000) (m : Mem) :
    ∃ v bl, Cloned m.heap v qs bl ∧ WF Γ (.func 28 [] []) [q] m fun y m' => y = v ∧ m' = ⟨m.heap ++ bl, m.loops⟩ := by
  obtain ⟨H, L⟩ := m
  rcases hq with ⟨rfl, rfl⟩ | ⟨full, rfl⟩
  · refine ⟨.snil, [], .inl ⟨rfl, rfl, rfl⟩, WF.fn hs hf (by show 1 ≤ 8; decide) ?_⟩
    unfold ir28
    simp only [padTo, List.replicate, List.nil_append, List.append_nil, List.cons_append]
    refine WC.seq (WC.region ?_)
    repeat (first
      | (refine WO.yes rfl ?_)
      | (refine WO.no rfl ?_; simp only [pt])
      | (refine WO.op (by intro; simp only [go_sem, Zz.look, fillP, over, cut]; rfl) ?_; simp only [pt])
      | (refine WO.opN (by intro; simp only [go_sem, Zz.look, storeAt, over, setBlk, cut]; rfl) ?_))
    refine WO.nil ?_
    simp only [Then]
    refine WC.seq (WC.seq (WC.region ?_))
    repeat (first
      | (refine WO.yes rfl ?_)
      | (refine WO.no rfl ?_; simp only [pt])
      | (refine WO.op (by intro; simp only [go_sem, Zz.look, fillP, over, cut, nilEqAV]; rfl) ?_; simp only [pt])
      | (refine WO.opN (by intro; simp only [go_sem, Zz.look, storeAt, over, setBlk, cut, nilEqAV]; rfl) ?_))
    refine WO.nil ?_
    simp only [Then]
    refine WC.yes (by simp only [go_sem]) (WC.seq (WC.region ?_))
    repeat (first
      | (refine WO.yes rfl ?_)
      | (refine WO.no rfl ?_; simp only [pt])
      | (refine WO.op (by intro; simp only [go_sem, Zz.look, fillP, over, cut]; rfl) ?_; simp only [pt])
      | (refine WO.opN (by intro; simp only [go_sem, Zz.look, storeAt, over, setBlk, cut]; rfl) ?_))
    refine WO.nil ?_
    simp only [Then]
    exact WC.ret ⟨_, rfl, rfl, rfl⟩
  · have body : ∀ v bl, Cloned H v qs bl → appendAV 1 8 ⟨H ++ [some ⟨0, []⟩], L⟩ (.sref H.length 0 0 1 0 (some 0)) (.sval full qs.length (qs.map (.int .i64))) = some (v, ⟨H ++ bl, L⟩) → WF Γ (.func 28 [] []) [.sval full qs.length (qs.map (.int .i64))] ⟨H, L⟩ fun y m' => y = v ∧ m' = ⟨H ++ bl, L⟩ := by
      intro v bl hc ha
      refine WF.fn hs hf (by show 1 ≤ 8; decide) ?_
      unfold ir28
      simp only [padTo, List.replicate, List.nil_append, List.append_nil, List.cons_append]
      refine WC.seq (WC.region ?_)
      repeat (first
        | (refine WO.yes rfl ?_)
        | (refine WO.no rfl ?_; simp only [pt])
        | (refine WO.op (by intro; simp only [go_sem, Zz.look, fillP, over, cut]; rfl) ?_; simp only [pt])
        | (refine WO.opN (by intro; simp only [go_sem, Zz.look, storeAt, over, setBlk, cut]; rfl) ?_))
      refine WO.nil ?_
      simp only [Then]
      refine WC.seq (WC.seq (WC.region ?_))
      repeat (first
        | (refine WO.yes rfl ?_)
        | (refine WO.no rfl ?_; simp only [pt])
        | (refine WO.op (by intro; simp only [go_sem, Zz.look, fillP, over, cut, nilEqAV]; rfl) ?_; simp only [pt])
        | (refine WO.opN (by intro; simp only [go_sem, Zz.look, storeAt, over, setBlk, cut, nilEqAV]; rfl) ?_))
      refine WO.nil ?_
      simp only [Then]
      refine WC.no (by simp only [go_sem]) (WC.skip ?_)
      simp only [Then]
      refine WC.seq (WC.region ?_)
      refine WO.op (by intro; simp only [go_sem, fillP, zeros]; rfl) ?_
      simp only [pt]
      refine WO.op (by intro; simp only [go_sem]; rfl) ?_
      simp only [pt]
      refine WO.op (by intro; rw [ev_append]; simp only [go_sem]; exact ha) ?_
      simp only [pt]
      repeat (first
        | (refine WO.yes rfl ?_)
        | (refine WO.no rfl ?_; simp only [pt])
        | (refine WO.op (by intro; simp only [go_sem, Zz.look, fillP, over, cut]; rfl) ?_; simp only [pt])
        | (refine WO.opN (by intro; simp only [go_sem, Zz.look, storeAt, over, setBlk, cut]; rfl) ?_))
      refine WO.nil ?_
      simp only [Then]
      exact WC.ret ⟨_, rfl, rfl, rfl⟩
    cases qs with
    | nil =>
      refine ⟨_, _, .inr (.inl ⟨rfl, rfl, rfl⟩), body _ _ (.inr (.inl ⟨rfl, rfl, rfl⟩)) ?_⟩
      simp [appendAV, scells, slen, Zz.look, cut, storeAt, over, setBlk]
    | cons x r =>
      refine ⟨_, _, .inr (.inr ⟨by simp, rfl, rfl⟩), body _ _ (.inr (.inr ⟨by simp, rfl, rfl⟩)) ?_⟩
      simp only [List.length_cons] at hmax
      unfold appendAV
      simp only [scells, slen, List.length_map, List.length_cons, Nat.mul_one, if_true, Option.bind_eq_bind, Option.bind_some, Zz.look, List.getElem?_append_right (Nat.le_refl _), Nat.sub_self, List.getElem?_cons_zero, cut, Nat.zero_mul, Nat.zero_add, List.length_nil, Nat.le_refl, Nat.zero_le, List.drop_zero, List.take_zero]
      rw [if_neg (by omega), if_pos (by omega)]
      simp [newBlk]
end Go.Proofs.Ytpddngcgajjacaa
