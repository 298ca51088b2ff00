import Derived.Test.YtpddngcgajjacaaL29C
set_option linter.unusedSimpArgs false
set_option linter.unusedVariables false
namespace Go.Proofs.Ytpddngcgajjacaa
open Go.Zz


/-- A copy, in its own memory. -/
def Cloned (H : Hp) (v : AV) (qs : List Int) (bl : Hp) : Prop :=
  (v = .snil ∧ qs = [] ∧ bl = []) ∨ (v = .sref H.length 0 0 1 0 (some 0) ∧ qs = [] ∧ bl = [some ⟨0, []⟩]) ∨ (0 < qs.length ∧ v = .sref (H.length + 1) 0 0 1 qs.length none ∧ bl = [some ⟨0, []⟩, some ⟨0, qs.map (.int .i64)⟩])

theorem clone_at {Γ : Env} {q : AV} {qs : List Int} (hs : Γ.spec 28 = none) (hf : Γ.fn 28 = some ir28) (hq : IntS q qs) (hmax : qs.length ≤ 2000) (m : Mem) :
    ∃ v bl, Cloned m.heap v qs bl ∧ WF Γ (.func 28 [] []) [q] m fun y m' => y = v ∧ m' = ⟨m.heap ++ bl, m.loops⟩ := by
  obtain ⟨H, L⟩ := m
  rcases hq with ⟨rfl, rfl⟩ | ⟨full, rfl⟩
  · refine ⟨.snil, [], .inl ⟨rfl, rfl, rfl⟩, WF.fn hs hf (by show 1 ≤ 8; decide) ?_⟩
    unfold ir28
    simp only [padTo, List.replicate, List.nil_append, List.append_nil, List.cons_append]
    refine WC.seq (WC.region ?_)
    repeat (first
      | (refine WO.yes rfl ?_)
      | (refine WO.no rfl ?_; simp only [pt])
      | (refine WO.op (by intro; simp only [go_sem, Zz.look, fillP, over, cut]; rfl) ?_; simp only [pt])
      | (refine WO.opN (by intro; simp only [go_sem, Zz.look, storeAt, over, setBlk, cut]; rfl) ?_))
    refine WO.nil ?_
    simp only [Then]
    refine WC.seq (WC.seq (WC.region ?_))
    repeat (first
      | (refine WO.yes rfl ?_)
      | (refine WO.no rfl ?_; simp only [pt])
      | (refine WO.op (by intro; simp only [go_sem, Zz.look, fillP, over, cut, nilEqAV]; rfl) ?_; simp only [pt])
      | (refine WO.opN (by intro; simp only [go_sem, Zz.look, storeAt, over, setBlk, cut, nilEqAV]; rfl) ?_))
    refine WO.nil ?_
    simp only [Then]
    refine WC.yes (by simp only [go_sem]) (WC.seq (WC.region ?_))
    repeat (first
      | (refine WO.yes rfl ?_)
      | (refine WO.no rfl ?_; simp only [pt])
      | (refine WO.op (by intro; simp only [go_sem, Zz.look, fillP, over, cut]; rfl) ?_; simp only [pt])
      | (refine WO.opN (by intro; simp only [go_sem, Zz.look, storeAt, over, setBlk, cut]; rfl) ?_))
    refine WO.nil ?_
    simp only [Then]
    exact WC.ret ⟨_, rfl, rfl, rfl⟩
  · have body : ∀ v bl, Cloned H v qs bl → appendAV 1 8 ⟨H ++ [some ⟨0, []⟩], L⟩ (.sref H.length 0 0 1 0 (some 0)) (.sval full qs.length (qs.map (.int .i64))) = some (v, ⟨H ++ bl, L⟩) → WF Γ (.func 28 [] []) [.sval full qs.length (qs.map (.int .i64))] ⟨H, L⟩ fun y m' => y = v ∧ m' = ⟨H ++ bl, L⟩ := by
      intro v bl hc ha
      refine WF.fn hs hf (by show 1 ≤ 8; decide) ?_
      unfold ir28
      simp only [padTo, List.replicate, List.nil_append, List.append_nil, List.cons_append]
      refine WC.seq (WC.region ?_)
      repeat (first
        | (refine WO.yes rfl ?_)
        | (refine WO.no rfl ?_; simp only [pt])
        | (refine WO.op (by intro; simp only [go_sem, Zz.look, fillP, over, cut]; rfl) ?_; simp only [pt])
        | (refine WO.opN (by intro; simp only [go_sem, Zz.look, storeAt, over, setBlk, cut]; rfl) ?_))
      refine WO.nil ?_
      simp only [Then]
      refine WC.seq (WC.seq (WC.region ?_))
      repeat (first
        | (refine WO.yes rfl ?_)
        | (refine WO.no rfl ?_; simp only [pt])
        | (refine WO.op (by intro; simp only [go_sem, Zz.look, fillP, over, cut, nilEqAV]; rfl) ?_; simp only [pt])
        | (refine WO.opN (by intro; simp only [go_sem, Zz.look, storeAt, over, setBlk, cut, nilEqAV]; rfl) ?_))
      refine WO.nil ?_
      simp only [Then]
      refine WC.no (by simp only [go_sem]) (WC.skip ?_)
      simp only [Then]
      refine WC.seq (WC.region ?_)
      refine WO.op (by intro; simp only [go_sem, fillP, zeros]; rfl) ?_
      simp only [pt]
      refine WO.op (by intro; simp only [go_sem]; rfl) ?_
      simp only [pt]
      refine WO.op (by intro; rw [ev_append]; simp only [go_sem]; exact ha) ?_
      simp only [pt]
      repeat (first
        | (refine WO.yes rfl ?_)
        | (refine WO.no rfl ?_; simp only [pt])
        | (refine WO.op (by intro; simp only [go_sem, Zz.look, fillP, over, cut]; rfl) ?_; simp only [pt])
        | (refine WO.opN (by intro; simp only [go_sem, Zz.look, storeAt, over, setBlk, cut]; rfl) ?_))
      refine WO.nil ?_
      simp only [Then]
      exact WC.ret ⟨_, rfl, rfl, rfl⟩
    cases qs with
    | nil =>
      refine ⟨_, _, .inr (.inl ⟨rfl, rfl, rfl⟩), body _ _ (.inr (.inl ⟨rfl, rfl, rfl⟩)) ?_⟩
      simp [appendAV, scells, slen, Zz.look, cut, storeAt, over, setBlk]
    | cons x r =>
      refine ⟨_, _, .inr (.inr ⟨by simp, rfl, rfl⟩), body _ _ (.inr (.inr ⟨by simp, rfl, rfl⟩)) ?_⟩
      simp only [List.length_cons] at hmax
      unfold appendAV
      simp only [scells, slen, List.length_map, List.length_cons, Nat.mul_one, if_true, Option.bind_eq_bind, Option.bind_some, Zz.look, List.getElem?_append_right (Nat.le_refl _), Nat.sub_self, List.getElem?_cons_zero, cut, Nat.zero_mul, Nat.zero_add, List.length_nil, Nat.le_refl, Nat.zero_le, List.drop_zero, List.take_zero]
      rw [if_neg (by omega), if_pos (by omega)]
      simp [newBlk]
end Go.Proofs.Ytpddngcgajjacaa

set_option linter.unusedSimpArgs false
set_option linter.unusedVariables false
namespace Go.Proofs.Ytpddngcgajjacaa
open Go.Zz


theorem take_bad {Γ : Env} {ps bd : Int} {ack : Bool} {g : AV} {gs : List Int} (hs : Γ.spec 19 = none) (hf : Γ.fn 19 = some ir19) (hg : IntS g gs) (hmax : gs.length < 9223372036854775808)
    (hbad : ¬ (gs.length ≤ 1000 ∧ ack = false ∧ 0 ≤ ps ∧ ps < 1000)) :
    WF Γ (.func 19 [] []) [.agg [g], .agg [.bool ack, .int .i64 ps, .int .i64 bd]] ⟨[], []⟩ fun y m' => resV m'.heap y = some (.tuple [.agg [.snil], .agg [.bool false, .int .i64 0, .int .i64 0], .int .i64 1]) := by
  refine WF.fn hs hf (by show 2 ≤ 46; decide) ?_
  unfold ir19
  simp only [padTo, List.replicate, List.nil_append, List.append_nil, List.cons_append]
  refine WC.seq (WC.region ?_)
  repeat (first
    | (refine WO.yes rfl ?_)
    | (refine WO.no rfl ?_; simp only [pt])
    | (refine WO.op (by intro; simp only [go_sem, Zz.look, fillP, over, cut]; rfl) ?_; simp only [pt])
    | (refine WO.opN (by intro; simp only [go_sem, Zz.look, storeAt, over, setBlk, cut]; rfl) ?_))
  refine WO.nil ?_
  simp only [Then]
  refine WC.seq (WC.seq (WC.region ?_))
  repeat (first
    | (refine WO.yes rfl ?_)
    | (refine WO.no rfl ?_; simp only [pt])
    | (refine WO.op (by intro; simp only [go_sem, Zz.look, fillP, over, cut]; rfl) ?_; simp only [pt])
    | (refine WO.opN (by intro; simp only [go_sem, Zz.look, storeAt, over, setBlk, cut]; rfl) ?_))
  refine WO.op (by intro; exact ev_lenS (n := gs.length) (by simp only [go_sem]; exact hg.len)) ?_
  simp only [pt]
  by_cases c0 : (1000 : Int) < gs.length
  · repeat (first
      | (refine WO.yes rfl ?_)
      | (refine WO.no rfl ?_; simp only [pt])
      | (refine WO.op (by intro; simp only [go_sem, Zz.look, fillP, over, cut, c0, decide_true]; rfl) ?_; simp only [pt])
      | (refine WO.opN (by intro; simp only [go_sem, Zz.look, storeAt, over, setBlk, cut, c0, decide_true]; rfl) ?_))
    refine WO.nil ?_
    simp only [Then]
    refine WC.yes (by simp only [go_sem]) (WC.seq (WC.region ?_))
    repeat (first
      | (refine WO.yes rfl ?_)
      | (refine WO.no rfl ?_; simp only [pt])
      | (refine WO.op (by intro; simp only [go_sem, Zz.look, fillP, over, cut]; rfl) ?_; simp only [pt])
      | (refine WO.opN (by intro; simp only [go_sem, Zz.look, storeAt, over, setBlk, cut]; rfl) ?_))
    refine WO.nil ?_
    simp only [Then]
    exact WC.ret ⟨_, rfl, rfl⟩
  · cases ack with
    | true =>
      repeat (first
        | (refine WO.yes rfl ?_)
        | (refine WO.no rfl ?_; simp only [pt])
        | (refine WO.op (by intro; simp only [go_sem, Zz.look, fillP, over, cut, c0, decide_false]; rfl) ?_; simp only [pt])
        | (refine WO.opN (by intro; simp only [go_sem, Zz.look, storeAt, over, setBlk, cut, c0, decide_false]; rfl) ?_))
      refine WO.nil ?_
      simp only [Then]
      refine WC.yes (by simp only [go_sem]) (WC.seq (WC.region ?_))
      repeat (first
        | (refine WO.yes rfl ?_)
        | (refine WO.no rfl ?_; simp only [pt])
        | (refine WO.op (by intro; simp only [go_sem, Zz.look, fillP, over, cut]; rfl) ?_; simp only [pt])
        | (refine WO.opN (by intro; simp only [go_sem, Zz.look, storeAt, over, setBlk, cut]; rfl) ?_))
      refine WO.nil ?_
      simp only [Then]
      exact WC.ret ⟨_, rfl, rfl⟩
    | false =>
      by_cases c1 : ps < 0
      · repeat (first
          | (refine WO.yes rfl ?_)
          | (refine WO.no rfl ?_; simp only [pt])
          | (refine WO.op (by intro; simp only [go_sem, Zz.look, fillP, over, cut, c0, c1, decide_true, decide_false]; rfl) ?_; simp only [pt])
          | (refine WO.opN (by intro; simp only [go_sem, Zz.look, storeAt, over, setBlk, cut, c0, c1, decide_true, decide_false]; rfl) ?_))
        refine WO.nil ?_
        simp only [Then]
        refine WC.yes (by simp only [go_sem]) (WC.seq (WC.region ?_))
        repeat (first
          | (refine WO.yes rfl ?_)
          | (refine WO.no rfl ?_; simp only [pt])
          | (refine WO.op (by intro; simp only [go_sem, Zz.look, fillP, over, cut]; rfl) ?_; simp only [pt])
          | (refine WO.opN (by intro; simp only [go_sem, Zz.look, storeAt, over, setBlk, cut]; rfl) ?_))
        refine WO.nil ?_
        simp only [Then]
        exact WC.ret ⟨_, rfl, rfl⟩
      · by_cases c2 : 1000 ≤ ps
        · repeat (first
            | (refine WO.yes rfl ?_)
            | (refine WO.no rfl ?_; simp only [pt])
            | (refine WO.op (by intro; simp only [go_sem, Zz.look, fillP, over, cut, c0, c1, c2, decide_true, decide_false]; rfl) ?_; simp only [pt])
            | (refine WO.opN (by intro; simp only [go_sem, Zz.look, storeAt, over, setBlk, cut, c0, c1, c2, decide_true, decide_false]; rfl) ?_))
          refine WO.nil ?_
          simp only [Then]
          refine WC.yes (by simp only [go_sem]) (WC.seq (WC.region ?_))
          repeat (first
            | (refine WO.yes rfl ?_)
            | (refine WO.no rfl ?_; simp only [pt])
            | (refine WO.op (by intro; simp only [go_sem, Zz.look, fillP, over, cut]; rfl) ?_; simp only [pt])
            | (refine WO.opN (by intro; simp only [go_sem, Zz.look, storeAt, over, setBlk, cut]; rfl) ?_))
          refine WO.nil ?_
          simp only [Then]
          exact WC.ret ⟨_, rfl, rfl⟩
        · exact absurd ⟨by omega, rfl, by omega, by omega⟩ hbad

/-- What Take answers. -/
def takes (gs : List Int) (ps bd : Int) : List Int := if ps = gs.length then gs ++ [bd] else gs

theorem app_own {a b c d e : Option Blk} {gs : List Int} {bd : Int} {L : List (Option ALoop)} (h : gs.length ≤ 1000) :
    appendAV 1 8 ⟨[a, b, c, d, e, some ⟨0, gs.map (.int .i64)⟩, some ⟨0, [.int .i64 bd]⟩], L⟩ (.sref 5 0 0 1 gs.length none) (.sref 6 0 0 1 1 (some 1)) = some (.sref 5 1 0 1 (gs.length + 1) none, ⟨[a, b, c, d, e, some ⟨1, gs.map (.int .i64) ++ [.int .i64 bd]⟩, some ⟨0, [.int .i64 bd]⟩], L⟩) := by
  simp only [appendAV, scells, slen, Zz.look, cut, List.getElem?_cons_succ, List.getElem?_cons_zero, Option.bind_eq_bind, Option.bind_some, if_true, List.length_map, Nat.mul_one, Nat.zero_add, List.length_cons, List.length_nil, Nat.le_refl, List.drop_zero]
  rw [if_neg (by omega), if_pos (by omega)]
  simp [setBlk, List.take_of_length_le]

theorem take_good {Γ : Env} {ps bd : Int} {g : AV} {gs : List Int} (hs : Γ.spec 19 = none) (hf : Γ.fn 19 = some ir19) (hs8 : Γ.spec 28 = none) (hf8 : Γ.fn 28 = some ir28) (hg : IntS g gs) (hmax : gs.length ≤ 1000) (h1 : 0 ≤ ps) (h2 : ps < 1000) :
    ∃ v, IntS v (takes gs ps bd) ∧ WF Γ (.func 19 [] []) [.agg [g], .agg [.bool false, .int .i64 ps, .int .i64 bd]] ⟨[], []⟩ fun y m' => resV m'.heap y = some (.tuple [.agg [v], .agg [.bool true, .int .i64 (takes gs ps bd).length, .int .i64 0], .int .i64 0]) := by
  have c0 : ¬ (1000 : Int) < gs.length := by omega
  have c1 : ¬ ps < 0 := by omega
  have c2 : ¬ 1000 ≤ ps := by omega
  have hmax' : gs.length < 9223372036854775808 := by omega
  obtain ⟨v, bl, hc, hw⟩ := clone_at hs8 hf8 hg (by omega) ⟨[some ⟨0, [g]⟩, some ⟨0, [.bool false, .int .i64 ps, .int .i64 bd]⟩, some ⟨0, [.snil]⟩, some ⟨0, [.bool false, .int .i64 0, .int .i64 0]⟩], []⟩
  by_cases cond : ps = gs.length
  · have ht : takes gs ps bd = gs ++ [bd] := by simp [takes, cond]
    rw [ht]
    have cb : (ps == (gs.length : Int)) = true := by simpa using cond
    rcases hc with ⟨rfl, hgs, rfl⟩ | ⟨rfl, hgs, rfl⟩ | ⟨hpos, rfl, rfl⟩
    · refine ⟨.sval false 1 [.int .i64 bd], .inr ⟨_, by rw [hgs]; rfl⟩, ?_⟩
      have cb' : (ps == ((0 : Nat) : Int)) = true := by rw [hgs] at cb; exact cb
      have hl0 : gs.length = 0 := by rw [hgs]; rfl
      refine WF.fn hs hf (by show 2 ≤ 46; decide) ?_
      unfold ir19
      simp only [padTo, List.replicate, List.nil_append, List.append_nil, List.cons_append]
      refine WC.seq (WC.region ?_)
      repeat (first
        | (refine WO.yes rfl ?_)
        | (refine WO.no rfl ?_; simp only [pt])
        | (refine WO.op (by intro; simp only [go_sem, Zz.look, fillP, over, cut]; rfl) ?_; simp only [pt])
        | (refine WO.opN (by intro; simp only [go_sem, Zz.look, storeAt, over, setBlk, cut]; rfl) ?_))
      refine WO.nil ?_
      simp only [Then]
      refine WC.seq (WC.seq (WC.region ?_))
      repeat (first
        | (refine WO.yes rfl ?_)
        | (refine WO.no rfl ?_; simp only [pt])
        | (refine WO.op (by intro; simp only [go_sem, Zz.look, fillP, over, cut]; rfl) ?_; simp only [pt])
        | (refine WO.opN (by intro; simp only [go_sem, Zz.look, storeAt, over, setBlk, cut]; rfl) ?_))
      refine WO.op (by intro; exact ev_lenS (n := gs.length) (by simp only [go_sem]; exact hg.len)) ?_
      simp only [pt]
      repeat (first
        | (refine WO.yes rfl ?_)
        | (refine WO.no rfl ?_; simp only [pt])
        | (refine WO.op (by intro; simp only [go_sem, Zz.look, fillP, over, cut, c0, c1, c2, decide_false]; rfl) ?_; simp only [pt])
        | (refine WO.opN (by intro; simp only [go_sem, Zz.look, storeAt, over, setBlk, cut, c0, c1, c2, decide_false]; rfl) ?_))
      refine WO.nil ?_
      simp only [Then]
      refine WC.no (by simp only [go_sem]) (WC.skip ?_)
      simp only [Then]
      refine WC.seq (WC.region ?_)
      repeat (first
        | (refine WO.yes rfl ?_)
        | (refine WO.no rfl ?_; simp only [pt])
        | (refine WO.op (by intro; simp only [go_sem, Zz.look, fillP, over, cut]; rfl) ?_; simp only [pt])
        | (refine WO.opN (by intro; simp only [go_sem, Zz.look, storeAt, over, setBlk, cut]; rfl) ?_))
      refine WO.call rfl rfl (hw.mono ?_)
      rintro y m' ⟨rfl, rfl⟩
      simp only [pt, List.cons_append, List.nil_append, List.append_nil]
      repeat (first
        | (refine WO.yes rfl ?_)
        | (refine WO.no rfl ?_; simp only [pt])
        | (refine WO.op (by intro; simp only [go_sem, Zz.look, fillP, over, cut]; rfl) ?_; simp only [pt])
        | (refine WO.opN (by intro; simp only [go_sem, Zz.look, storeAt, over, setBlk, cut]; rfl) ?_))
      refine WO.nil ?_
      simp only [Then]
      refine WC.seq (WC.seq (WC.region ?_))
      repeat (first
        | (refine WO.yes rfl ?_)
        | (refine WO.no rfl ?_; simp only [pt])
        | (refine WO.op (by intro; simp only [go_sem, Zz.look, fillP, over, cut]; rfl) ?_; simp only [pt])
        | (refine WO.opN (by intro; simp only [go_sem, Zz.look, storeAt, over, setBlk, cut]; rfl) ?_))
      try (
        refine WO.op (by intro; exact ev_lenS (n := 0) rfl) ?_
        simp only [pt])
      repeat (first
        | (refine WO.yes rfl ?_)
        | (refine WO.no rfl ?_; simp only [pt])
        | (refine WO.op (by intro; simp only [go_sem, Zz.look, fillP, over, cut, cb']; rfl) ?_; simp only [pt])
        | (refine WO.opN (by intro; simp only [go_sem, Zz.look, storeAt, over, setBlk, cut, cb']; rfl) ?_))
      refine WO.nil ?_
      simp only [Then]
      refine WC.yes (by simp only [go_sem, cb']) (WC.region ?_)
      repeat (first
        | (refine WO.yes rfl ?_)
        | (refine WO.no rfl ?_; simp only [pt])
        | (refine WO.op (by intro; simp only [go_sem, Zz.look, fillP, over, cut]; rfl) ?_; simp only [pt])
        | (refine WO.opN (by intro; simp only [go_sem, Zz.look, storeAt, over, setBlk, cut]; rfl) ?_))
      try (
        refine WO.op (by intro; rw [ev_append]; exact rfl) ?_
        simp only [pt])
      repeat (first
        | (refine WO.yes rfl ?_)
        | (refine WO.no rfl ?_; simp only [pt])
        | (refine WO.op (by intro; simp only [go_sem, Zz.look, fillP, over, cut]; rfl) ?_; simp only [pt])
        | (refine WO.opN (by intro; simp only [go_sem, Zz.look, storeAt, over, setBlk, cut]; rfl) ?_))
      refine WO.nil ?_
      simp only [Then]
      refine WC.seq (WC.region ?_)
      repeat (first
        | (refine WO.yes rfl ?_)
        | (refine WO.no rfl ?_; simp only [pt])
        | (refine WO.op (by intro; simp only [go_sem, Zz.look, fillP, over, cut]; rfl) ?_; simp only [pt])
        | (refine WO.opN (by intro; simp only [go_sem, Zz.look, storeAt, over, setBlk, cut]; rfl) ?_))
      try (
        refine WO.op (by intro; exact ev_lenS (n := 1) rfl) ?_
        simp only [pt])
      repeat (first
        | (refine WO.yes rfl ?_)
        | (refine WO.no rfl ?_; simp only [pt])
        | (refine WO.op (by intro; simp only [go_sem, Zz.look, fillP, over, cut]; rfl) ?_; simp only [pt])
        | (refine WO.opN (by intro; simp only [go_sem, Zz.look, storeAt, over, setBlk, cut]; rfl) ?_))
      refine WO.nil ?_
      simp only [Then]
      refine WC.ret ⟨_, rfl, ?_⟩
      simp [oneRes, gt, resV, resA, resC, resT, resL, Zz.look, cut, flatAV, St.mem, List.take_of_length_le, AV.cells, evRes, hl0] 
    · refine ⟨.sval false 1 [.int .i64 bd], .inr ⟨_, by rw [hgs]; rfl⟩, ?_⟩
      have cb' : (ps == ((0 : Nat) : Int)) = true := by rw [hgs] at cb; exact cb
      have hl0 : gs.length = 0 := by rw [hgs]; rfl
      refine WF.fn hs hf (by show 2 ≤ 46; decide) ?_
      unfold ir19
      simp only [padTo, List.replicate, List.nil_append, List.append_nil, List.cons_append]
      refine WC.seq (WC.region ?_)
      repeat (first
        | (refine WO.yes rfl ?_)
        | (refine WO.no rfl ?_; simp only [pt])
        | (refine WO.op (by intro; simp only [go_sem, Zz.look, fillP, over, cut]; rfl) ?_; simp only [pt])
        | (refine WO.opN (by intro; simp only [go_sem, Zz.look, storeAt, over, setBlk, cut]; rfl) ?_))
      refine WO.nil ?_
      simp only [Then]
      refine WC.seq (WC.seq (WC.region ?_))
      repeat (first
        | (refine WO.yes rfl ?_)
        | (refine WO.no rfl ?_; simp only [pt])
        | (refine WO.op (by intro; simp only [go_sem, Zz.look, fillP, over, cut]; rfl) ?_; simp only [pt])
        | (refine WO.opN (by intro; simp only [go_sem, Zz.look, storeAt, over, setBlk, cut]; rfl) ?_))
      refine WO.op (by intro; exact ev_lenS (n := gs.length) (by simp only [go_sem]; exact hg.len)) ?_
      simp only [pt]
      repeat (first
        | (refine WO.yes rfl ?_)
        | (refine WO.no rfl ?_; simp only [pt])
        | (refine WO.op (by intro; simp only [go_sem, Zz.look, fillP, over, cut, c0, c1, c2, decide_false]; rfl) ?_; simp only [pt])
        | (refine WO.opN (by intro; simp only [go_sem, Zz.look, storeAt, over, setBlk, cut, c0, c1, c2, decide_false]; rfl) ?_))
      refine WO.nil ?_
      simp only [Then]
      refine WC.no (by simp only [go_sem]) (WC.skip ?_)
      simp only [Then]
      refine WC.seq (WC.region ?_)
      repeat (first
        | (refine WO.yes rfl ?_)
        | (refine WO.no rfl ?_; simp only [pt])
        | (refine WO.op (by intro; simp only [go_sem, Zz.look, fillP, over, cut]; rfl) ?_; simp only [pt])
        | (refine WO.opN (by intro; simp only [go_sem, Zz.look, storeAt, over, setBlk, cut]; rfl) ?_))
      refine WO.call rfl rfl (hw.mono ?_)
      rintro y m' ⟨rfl, rfl⟩
      simp only [pt, List.cons_append, List.nil_append, List.append_nil]
      repeat (first
        | (refine WO.yes rfl ?_)
        | (refine WO.no rfl ?_; simp only [pt])
        | (refine WO.op (by intro; simp only [go_sem, Zz.look, fillP, over, cut]; rfl) ?_; simp only [pt])
        | (refine WO.opN (by intro; simp only [go_sem, Zz.look, storeAt, over, setBlk, cut]; rfl) ?_))
      refine WO.nil ?_
      simp only [Then]
      refine WC.seq (WC.seq (WC.region ?_))
      repeat (first
        | (refine WO.yes rfl ?_)
        | (refine WO.no rfl ?_; simp only [pt])
        | (refine WO.op (by intro; simp only [go_sem, Zz.look, fillP, over, cut]; rfl) ?_; simp only [pt])
        | (refine WO.opN (by intro; simp only [go_sem, Zz.look, storeAt, over, setBlk, cut]; rfl) ?_))
      try (
        refine WO.op (by intro; exact ev_lenS (n := 0) rfl) ?_
        simp only [pt])
      repeat (first
        | (refine WO.yes rfl ?_)
        | (refine WO.no rfl ?_; simp only [pt])
        | (refine WO.op (by intro; simp only [go_sem, Zz.look, fillP, over, cut, cb']; rfl) ?_; simp only [pt])
        | (refine WO.opN (by intro; simp only [go_sem, Zz.look, storeAt, over, setBlk, cut, cb']; rfl) ?_))
      refine WO.nil ?_
      simp only [Then]
      refine WC.yes (by simp only [go_sem, cb']) (WC.region ?_)
      repeat (first
        | (refine WO.yes rfl ?_)
        | (refine WO.no rfl ?_; simp only [pt])
        | (refine WO.op (by intro; simp only [go_sem, Zz.look, fillP, over, cut]; rfl) ?_; simp only [pt])
        | (refine WO.opN (by intro; simp only [go_sem, Zz.look, storeAt, over, setBlk, cut]; rfl) ?_))
      try (
        refine WO.op (by intro; rw [ev_append]; exact rfl) ?_
        simp only [pt])
      repeat (first
        | (refine WO.yes rfl ?_)
        | (refine WO.no rfl ?_; simp only [pt])
        | (refine WO.op (by intro; simp only [go_sem, Zz.look, fillP, over, cut]; rfl) ?_; simp only [pt])
        | (refine WO.opN (by intro; simp only [go_sem, Zz.look, storeAt, over, setBlk, cut]; rfl) ?_))
      refine WO.nil ?_
      simp only [Then]
      refine WC.seq (WC.region ?_)
      repeat (first
        | (refine WO.yes rfl ?_)
        | (refine WO.no rfl ?_; simp only [pt])
        | (refine WO.op (by intro; simp only [go_sem, Zz.look, fillP, over, cut]; rfl) ?_; simp only [pt])
        | (refine WO.opN (by intro; simp only [go_sem, Zz.look, storeAt, over, setBlk, cut]; rfl) ?_))
      try (
        refine WO.op (by intro; exact ev_lenS (n := 1) rfl) ?_
        simp only [pt])
      repeat (first
        | (refine WO.yes rfl ?_)
        | (refine WO.no rfl ?_; simp only [pt])
        | (refine WO.op (by intro; simp only [go_sem, Zz.look, fillP, over, cut]; rfl) ?_; simp only [pt])
        | (refine WO.opN (by intro; simp only [go_sem, Zz.look, storeAt, over, setBlk, cut]; rfl) ?_))
      refine WO.nil ?_
      simp only [Then]
      refine WC.ret ⟨_, rfl, ?_⟩
      simp [oneRes, gt, resV, resA, resC, resT, resL, Zz.look, cut, flatAV, St.mem, List.take_of_length_le, AV.cells, evRes, hl0] 
    · refine ⟨.sval false (gs.length + 1) (gs.map (.int .i64) ++ [.int .i64 bd]), .inr ⟨false, by simp⟩, ?_⟩
      have happ := fun (a b c d e : Option Blk) (L : List (Option ALoop)) => app_own (a := a) (b := b) (c := c) (d := d) (e := e) (bd := bd) (L := L) hmax
      have fl := flat_ints gs
      have hl0 : (0 : Nat) = 0 := rfl
      refine WF.fn hs hf (by show 2 ≤ 46; decide) ?_
      unfold ir19
      simp only [padTo, List.replicate, List.nil_append, List.append_nil, List.cons_append]
      refine WC.seq (WC.region ?_)
      repeat (first
        | (refine WO.yes rfl ?_)
        | (refine WO.no rfl ?_; simp only [pt])
        | (refine WO.op (by intro; simp only [go_sem, Zz.look, fillP, over, cut]; rfl) ?_; simp only [pt])
        | (refine WO.opN (by intro; simp only [go_sem, Zz.look, storeAt, over, setBlk, cut]; rfl) ?_))
      refine WO.nil ?_
      simp only [Then]
      refine WC.seq (WC.seq (WC.region ?_))
      repeat (first
        | (refine WO.yes rfl ?_)
        | (refine WO.no rfl ?_; simp only [pt])
        | (refine WO.op (by intro; simp only [go_sem, Zz.look, fillP, over, cut]; rfl) ?_; simp only [pt])
        | (refine WO.opN (by intro; simp only [go_sem, Zz.look, storeAt, over, setBlk, cut]; rfl) ?_))
      refine WO.op (by intro; exact ev_lenS (n := gs.length) (by simp only [go_sem]; exact hg.len)) ?_
      simp only [pt]
      repeat (first
        | (refine WO.yes rfl ?_)
        | (refine WO.no rfl ?_; simp only [pt])
        | (refine WO.op (by intro; simp only [go_sem, Zz.look, fillP, over, cut, c0, c1, c2, decide_false]; rfl) ?_; simp only [pt])
        | (refine WO.opN (by intro; simp only [go_sem, Zz.look, storeAt, over, setBlk, cut, c0, c1, c2, decide_false]; rfl) ?_))
      refine WO.nil ?_
      simp only [Then]
      refine WC.no (by simp only [go_sem]) (WC.skip ?_)
      simp only [Then]
      refine WC.seq (WC.region ?_)
      repeat (first
        | (refine WO.yes rfl ?_)
        | (refine WO.no rfl ?_; simp only [pt])
        | (refine WO.op (by intro; simp only [go_sem, Zz.look, fillP, over, cut]; rfl) ?_; simp only [pt])
        | (refine WO.opN (by intro; simp only [go_sem, Zz.look, storeAt, over, setBlk, cut]; rfl) ?_))
      refine WO.call rfl rfl (hw.mono ?_)
      rintro y m' ⟨rfl, rfl⟩
      simp only [pt, List.cons_append, List.nil_append, List.append_nil]
      repeat (first
        | (refine WO.yes rfl ?_)
        | (refine WO.no rfl ?_; simp only [pt])
        | (refine WO.op (by intro; simp only [go_sem, Zz.look, fillP, over, cut]; rfl) ?_; simp only [pt])
        | (refine WO.opN (by intro; simp only [go_sem, Zz.look, storeAt, over, setBlk, cut]; rfl) ?_))
      refine WO.nil ?_
      simp only [Then]
      refine WC.seq (WC.seq (WC.region ?_))
      repeat (first
        | (refine WO.yes rfl ?_)
        | (refine WO.no rfl ?_; simp only [pt])
        | (refine WO.op (by intro; simp only [go_sem, Zz.look, fillP, over, cut]; rfl) ?_; simp only [pt])
        | (refine WO.opN (by intro; simp only [go_sem, Zz.look, storeAt, over, setBlk, cut]; rfl) ?_))
      try (
        refine WO.op (by intro; exact ev_lenS (n := gs.length) rfl) ?_
        simp only [pt])
      repeat (first
        | (refine WO.yes rfl ?_)
        | (refine WO.no rfl ?_; simp only [pt])
        | (refine WO.op (by intro; simp only [go_sem, Zz.look, fillP, over, cut, cb]; rfl) ?_; simp only [pt])
        | (refine WO.opN (by intro; simp only [go_sem, Zz.look, storeAt, over, setBlk, cut, cb]; rfl) ?_))
      refine WO.nil ?_
      simp only [Then]
      refine WC.yes (by simp only [go_sem, cb]) (WC.region ?_)
      repeat (first
        | (refine WO.yes rfl ?_)
        | (refine WO.no rfl ?_; simp only [pt])
        | (refine WO.op (by intro; simp only [go_sem, Zz.look, fillP, over, cut]; rfl) ?_; simp only [pt])
        | (refine WO.opN (by intro; simp only [go_sem, Zz.look, storeAt, over, setBlk, cut]; rfl) ?_))
      try (
        refine WO.op (by intro; rw [ev_append]; simp only [go_sem]; exact happ _ _ _ _ _ _) ?_
        simp only [pt])
      repeat (first
        | (refine WO.yes rfl ?_)
        | (refine WO.no rfl ?_; simp only [pt])
        | (refine WO.op (by intro; simp only [go_sem, Zz.look, fillP, over, cut]; rfl) ?_; simp only [pt])
        | (refine WO.opN (by intro; simp only [go_sem, Zz.look, storeAt, over, setBlk, cut]; rfl) ?_))
      refine WO.nil ?_
      simp only [Then]
      refine WC.seq (WC.region ?_)
      repeat (first
        | (refine WO.yes rfl ?_)
        | (refine WO.no rfl ?_; simp only [pt])
        | (refine WO.op (by intro; simp only [go_sem, Zz.look, fillP, over, cut]; rfl) ?_; simp only [pt])
        | (refine WO.opN (by intro; simp only [go_sem, Zz.look, storeAt, over, setBlk, cut]; rfl) ?_))
      try (
        refine WO.op (by intro; exact ev_lenS (n := gs.length + 1) rfl) ?_
        simp only [pt])
      repeat (first
        | (refine WO.yes rfl ?_)
        | (refine WO.no rfl ?_; simp only [pt])
        | (refine WO.op (by intro; simp only [go_sem, Zz.look, fillP, over, cut]; rfl) ?_; simp only [pt])
        | (refine WO.opN (by intro; simp only [go_sem, Zz.look, storeAt, over, setBlk, cut]; rfl) ?_))
      refine WO.nil ?_
      simp only [Then]
      refine WC.ret ⟨_, rfl, ?_⟩
      simp [oneRes, gt, resV, resA, resC, resT, resL, Zz.look, cut, flatAV, St.mem, List.take_of_length_le, AV.cells, evRes, hl0] 
  · have ht : takes gs ps bd = gs := by simp [takes, cond]
    rw [ht]
    have cb : (ps == (gs.length : Int)) = false := by simpa using cond
    rcases hc with ⟨rfl, hgs, rfl⟩ | ⟨rfl, hgs, rfl⟩ | ⟨hpos, rfl, rfl⟩
    · refine ⟨.snil, .inl ⟨rfl, hgs⟩, ?_⟩
      have cb' : (ps == ((0 : Nat) : Int)) = false := by rw [hgs] at cb; exact cb
      have hl0 : gs.length = 0 := by rw [hgs]; rfl
      refine WF.fn hs hf (by show 2 ≤ 46; decide) ?_
      unfold ir19
      simp only [padTo, List.replicate, List.nil_append, List.append_nil, List.cons_append]
      refine WC.seq (WC.region ?_)
      repeat (first
        | (refine WO.yes rfl ?_)
        | (refine WO.no rfl ?_; simp only [pt])
        | (refine WO.op (by intro; simp only [go_sem, Zz.look, fillP, over, cut]; rfl) ?_; simp only [pt])
        | (refine WO.opN (by intro; simp only [go_sem, Zz.look, storeAt, over, setBlk, cut]; rfl) ?_))
      refine WO.nil ?_
      simp only [Then]
      refine WC.seq (WC.seq (WC.region ?_))
      repeat (first
        | (refine WO.yes rfl ?_)
        | (refine WO.no rfl ?_; simp only [pt])
        | (refine WO.op (by intro; simp only [go_sem, Zz.look, fillP, over, cut]; rfl) ?_; simp only [pt])
        | (refine WO.opN (by intro; simp only [go_sem, Zz.look, storeAt, over, setBlk, cut]; rfl) ?_))
      refine WO.op (by intro; exact ev_lenS (n := gs.length) (by simp only [go_sem]; exact hg.len)) ?_
      simp only [pt]
      repeat (first
        | (refine WO.yes rfl ?_)
        | (refine WO.no rfl ?_; simp only [pt])
        | (refine WO.op (by intro; simp only [go_sem, Zz.look, fillP, over, cut, c0, c1, c2, decide_false]; rfl) ?_; simp only [pt])
        | (refine WO.opN (by intro; simp only [go_sem, Zz.look, storeAt, over, setBlk, cut, c0, c1, c2, decide_false]; rfl) ?_))
      refine WO.nil ?_
      simp only [Then]
      refine WC.no (by simp only [go_sem]) (WC.skip ?_)
      simp only [Then]
      refine WC.seq (WC.region ?_)
      repeat (first
        | (refine WO.yes rfl ?_)
        | (refine WO.no rfl ?_; simp only [pt])
        | (refine WO.op (by intro; simp only [go_sem, Zz.look, fillP, over, cut]; rfl) ?_; simp only [pt])
        | (refine WO.opN (by intro; simp only [go_sem, Zz.look, storeAt, over, setBlk, cut]; rfl) ?_))
      refine WO.call rfl rfl (hw.mono ?_)
      rintro y m' ⟨rfl, rfl⟩
      simp only [pt, List.cons_append, List.nil_append, List.append_nil]
      repeat (first
        | (refine WO.yes rfl ?_)
        | (refine WO.no rfl ?_; simp only [pt])
        | (refine WO.op (by intro; simp only [go_sem, Zz.look, fillP, over, cut]; rfl) ?_; simp only [pt])
        | (refine WO.opN (by intro; simp only [go_sem, Zz.look, storeAt, over, setBlk, cut]; rfl) ?_))
      refine WO.nil ?_
      simp only [Then]
      refine WC.seq (WC.seq (WC.region ?_))
      repeat (first
        | (refine WO.yes rfl ?_)
        | (refine WO.no rfl ?_; simp only [pt])
        | (refine WO.op (by intro; simp only [go_sem, Zz.look, fillP, over, cut]; rfl) ?_; simp only [pt])
        | (refine WO.opN (by intro; simp only [go_sem, Zz.look, storeAt, over, setBlk, cut]; rfl) ?_))
      try (
        refine WO.op (by intro; exact ev_lenS (n := 0) rfl) ?_
        simp only [pt])
      repeat (first
        | (refine WO.yes rfl ?_)
        | (refine WO.no rfl ?_; simp only [pt])
        | (refine WO.op (by intro; simp only [go_sem, Zz.look, fillP, over, cut, cb']; rfl) ?_; simp only [pt])
        | (refine WO.opN (by intro; simp only [go_sem, Zz.look, storeAt, over, setBlk, cut, cb']; rfl) ?_))
      refine WO.nil ?_
      simp only [Then]
      refine WC.no (by simp only [go_sem, cb']) (WC.skip ?_)
      simp only [Then]
      refine WC.seq (WC.region ?_)
      repeat (first
        | (refine WO.yes rfl ?_)
        | (refine WO.no rfl ?_; simp only [pt])
        | (refine WO.op (by intro; simp only [go_sem, Zz.look, fillP, over, cut]; rfl) ?_; simp only [pt])
        | (refine WO.opN (by intro; simp only [go_sem, Zz.look, storeAt, over, setBlk, cut]; rfl) ?_))
      try (
        refine WO.op (by intro; exact ev_lenS (n := 0) rfl) ?_
        simp only [pt])
      repeat (first
        | (refine WO.yes rfl ?_)
        | (refine WO.no rfl ?_; simp only [pt])
        | (refine WO.op (by intro; simp only [go_sem, Zz.look, fillP, over, cut]; rfl) ?_; simp only [pt])
        | (refine WO.opN (by intro; simp only [go_sem, Zz.look, storeAt, over, setBlk, cut]; rfl) ?_))
      refine WO.nil ?_
      simp only [Then]
      refine WC.ret ⟨_, rfl, ?_⟩
      simp [oneRes, gt, resV, resA, resC, resT, resL, Zz.look, cut, flatAV, St.mem, List.take_of_length_le, AV.cells, evRes, hl0] 
    · refine ⟨.sval true 0 [], .inr ⟨_, by rw [hgs]; rfl⟩, ?_⟩
      have cb' : (ps == ((0 : Nat) : Int)) = false := by rw [hgs] at cb; exact cb
      have hl0 : gs.length = 0 := by rw [hgs]; rfl
      refine WF.fn hs hf (by show 2 ≤ 46; decide) ?_
      unfold ir19
      simp only [padTo, List.replicate, List.nil_append, List.append_nil, List.cons_append]
      refine WC.seq (WC.region ?_)
      repeat (first
        | (refine WO.yes rfl ?_)
        | (refine WO.no rfl ?_; simp only [pt])
        | (refine WO.op (by intro; simp only [go_sem, Zz.look, fillP, over, cut]; rfl) ?_; simp only [pt])
        | (refine WO.opN (by intro; simp only [go_sem, Zz.look, storeAt, over, setBlk, cut]; rfl) ?_))
      refine WO.nil ?_
      simp only [Then]
      refine WC.seq (WC.seq (WC.region ?_))
      repeat (first
        | (refine WO.yes rfl ?_)
        | (refine WO.no rfl ?_; simp only [pt])
        | (refine WO.op (by intro; simp only [go_sem, Zz.look, fillP, over, cut]; rfl) ?_; simp only [pt])
        | (refine WO.opN (by intro; simp only [go_sem, Zz.look, storeAt, over, setBlk, cut]; rfl) ?_))
      refine WO.op (by intro; exact ev_lenS (n := gs.length) (by simp only [go_sem]; exact hg.len)) ?_
      simp only [pt]
      repeat (first
        | (refine WO.yes rfl ?_)
        | (refine WO.no rfl ?_; simp only [pt])
        | (refine WO.op (by intro; simp only [go_sem, Zz.look, fillP, over, cut, c0, c1, c2, decide_false]; rfl) ?_; simp only [pt])
        | (refine WO.opN (by intro; simp only [go_sem, Zz.look, storeAt, over, setBlk, cut, c0, c1, c2, decide_false]; rfl) ?_))
      refine WO.nil ?_
      simp only [Then]
      refine WC.no (by simp only [go_sem]) (WC.skip ?_)
      simp only [Then]
      refine WC.seq (WC.region ?_)
      repeat (first
        | (refine WO.yes rfl ?_)
        | (refine WO.no rfl ?_; simp only [pt])
        | (refine WO.op (by intro; simp only [go_sem, Zz.look, fillP, over, cut]; rfl) ?_; simp only [pt])
        | (refine WO.opN (by intro; simp only [go_sem, Zz.look, storeAt, over, setBlk, cut]; rfl) ?_))
      refine WO.call rfl rfl (hw.mono ?_)
      rintro y m' ⟨rfl, rfl⟩
      simp only [pt, List.cons_append, List.nil_append, List.append_nil]
      repeat (first
        | (refine WO.yes rfl ?_)
        | (refine WO.no rfl ?_; simp only [pt])
        | (refine WO.op (by intro; simp only [go_sem, Zz.look, fillP, over, cut]; rfl) ?_; simp only [pt])
        | (refine WO.opN (by intro; simp only [go_sem, Zz.look, storeAt, over, setBlk, cut]; rfl) ?_))
      refine WO.nil ?_
      simp only [Then]
      refine WC.seq (WC.seq (WC.region ?_))
      repeat (first
        | (refine WO.yes rfl ?_)
        | (refine WO.no rfl ?_; simp only [pt])
        | (refine WO.op (by intro; simp only [go_sem, Zz.look, fillP, over, cut]; rfl) ?_; simp only [pt])
        | (refine WO.opN (by intro; simp only [go_sem, Zz.look, storeAt, over, setBlk, cut]; rfl) ?_))
      try (
        refine WO.op (by intro; exact ev_lenS (n := 0) rfl) ?_
        simp only [pt])
      repeat (first
        | (refine WO.yes rfl ?_)
        | (refine WO.no rfl ?_; simp only [pt])
        | (refine WO.op (by intro; simp only [go_sem, Zz.look, fillP, over, cut, cb']; rfl) ?_; simp only [pt])
        | (refine WO.opN (by intro; simp only [go_sem, Zz.look, storeAt, over, setBlk, cut, cb']; rfl) ?_))
      refine WO.nil ?_
      simp only [Then]
      refine WC.no (by simp only [go_sem, cb']) (WC.skip ?_)
      simp only [Then]
      refine WC.seq (WC.region ?_)
      repeat (first
        | (refine WO.yes rfl ?_)
        | (refine WO.no rfl ?_; simp only [pt])
        | (refine WO.op (by intro; simp only [go_sem, Zz.look, fillP, over, cut]; rfl) ?_; simp only [pt])
        | (refine WO.opN (by intro; simp only [go_sem, Zz.look, storeAt, over, setBlk, cut]; rfl) ?_))
      try (
        refine WO.op (by intro; exact ev_lenS (n := 0) rfl) ?_
        simp only [pt])
      repeat (first
        | (refine WO.yes rfl ?_)
        | (refine WO.no rfl ?_; simp only [pt])
        | (refine WO.op (by intro; simp only [go_sem, Zz.look, fillP, over, cut]; rfl) ?_; simp only [pt])
        | (refine WO.opN (by intro; simp only [go_sem, Zz.look, storeAt, over, setBlk, cut]; rfl) ?_))
      refine WO.nil ?_
      simp only [Then]
      refine WC.ret ⟨_, rfl, ?_⟩
      simp [oneRes, gt, resV, resA, resC, resT, resL, Zz.look, cut, flatAV, St.mem, List.take_of_length_le, AV.cells, evRes, hl0] 
    · refine ⟨.sval false gs.length (gs.map (.int .i64)), .inr ⟨false, rfl⟩, ?_⟩
      have fl := flat_ints gs
      have hl0 : (0 : Nat) = 0 := rfl
      refine WF.fn hs hf (by show 2 ≤ 46; decide) ?_
      unfold ir19
      simp only [padTo, List.replicate, List.nil_append, List.append_nil, List.cons_append]
      refine WC.seq (WC.region ?_)
      repeat (first
        | (refine WO.yes rfl ?_)
        | (refine WO.no rfl ?_; simp only [pt])
        | (refine WO.op (by intro; simp only [go_sem, Zz.look, fillP, over, cut]; rfl) ?_; simp only [pt])
        | (refine WO.opN (by intro; simp only [go_sem, Zz.look, storeAt, over, setBlk, cut]; rfl) ?_))
      refine WO.nil ?_
      simp only [Then]
      refine WC.seq (WC.seq (WC.region ?_))
      repeat (first
        | (refine WO.yes rfl ?_)
        | (refine WO.no rfl ?_; simp only [pt])
        | (refine WO.op (by intro; simp only [go_sem, Zz.look, fillP, over, cut]; rfl) ?_; simp only [pt])
        | (refine WO.opN (by intro; simp only [go_sem, Zz.look, storeAt, over, setBlk, cut]; rfl) ?_))
      refine WO.op (by intro; exact ev_lenS (n := gs.length) (by simp only [go_sem]; exact hg.len)) ?_
      simp only [pt]
      repeat (first
        | (refine WO.yes rfl ?_)
        | (refine WO.no rfl ?_; simp only [pt])
        | (refine WO.op (by intro; simp only [go_sem, Zz.look, fillP, over, cut, c0, c1, c2, decide_false]; rfl) ?_; simp only [pt])
        | (refine WO.opN (by intro; simp only [go_sem, Zz.look, storeAt, over, setBlk, cut, c0, c1, c2, decide_false]; rfl) ?_))
      refine WO.nil ?_
      simp only [Then]
      refine WC.no (by simp only [go_sem]) (WC.skip ?_)
      simp only [Then]
      refine WC.seq (WC.region ?_)
      repeat (first
        | (refine WO.yes rfl ?_)
        | (refine WO.no rfl ?_; simp only [pt])
        | (refine WO.op (by intro; simp only [go_sem, Zz.look, fillP, over, cut]; rfl) ?_; simp only [pt])
        | (refine WO.opN (by intro; simp only [go_sem, Zz.look, storeAt, over, setBlk, cut]; rfl) ?_))
      refine WO.call rfl rfl (hw.mono ?_)
      rintro y m' ⟨rfl, rfl⟩
      simp only [pt, List.cons_append, List.nil_append, List.append_nil]
      repeat (first
        | (refine WO.yes rfl ?_)
        | (refine WO.no rfl ?_; simp only [pt])
        | (refine WO.op (by intro; simp only [go_sem, Zz.look, fillP, over, cut]; rfl) ?_; simp only [pt])
        | (refine WO.opN (by intro; simp only [go_sem, Zz.look, storeAt, over, setBlk, cut]; rfl) ?_))
      refine WO.nil ?_
      simp only [Then]
      refine WC.seq (WC.seq (WC.region ?_))
      repeat (first
        | (refine WO.yes rfl ?_)
        | (refine WO.no rfl ?_; simp only [pt])
        | (refine WO.op (by intro; simp only [go_sem, Zz.look, fillP, over, cut]; rfl) ?_; simp only [pt])
        | (refine WO.opN (by intro; simp only [go_sem, Zz.look, storeAt, over, setBlk, cut]; rfl) ?_))
      try (
        refine WO.op (by intro; exact ev_lenS (n := gs.length) rfl) ?_
        simp only [pt])
      repeat (first
        | (refine WO.yes rfl ?_)
        | (refine WO.no rfl ?_; simp only [pt])
        | (refine WO.op (by intro; simp only [go_sem, Zz.look, fillP, over, cut, cb]; rfl) ?_; simp only [pt])
        | (refine WO.opN (by intro; simp only [go_sem, Zz.look, storeAt, over, setBlk, cut, cb]; rfl) ?_))
      refine WO.nil ?_
      simp only [Then]
      refine WC.no (by simp only [go_sem, cb]) (WC.skip ?_)
      simp only [Then]
      refine WC.seq (WC.region ?_)
      repeat (first
        | (refine WO.yes rfl ?_)
        | (refine WO.no rfl ?_; simp only [pt])
        | (refine WO.op (by intro; simp only [go_sem, Zz.look, fillP, over, cut]; rfl) ?_; simp only [pt])
        | (refine WO.opN (by intro; simp only [go_sem, Zz.look, storeAt, over, setBlk, cut]; rfl) ?_))
      try (
        refine WO.op (by intro; exact ev_lenS (n := gs.length) rfl) ?_
        simp only [pt])
      repeat (first
        | (refine WO.yes rfl ?_)
        | (refine WO.no rfl ?_; simp only [pt])
        | (refine WO.op (by intro; simp only [go_sem, Zz.look, fillP, over, cut]; rfl) ?_; simp only [pt])
        | (refine WO.opN (by intro; simp only [go_sem, Zz.look, storeAt, over, setBlk, cut]; rfl) ?_))
      refine WO.nil ?_
      simp only [Then]
      refine WC.ret ⟨_, rfl, ?_⟩
      simp [oneRes, gt, resV, resA, resC, resT, resL, Zz.look, cut, flatAV, St.mem, List.take_of_length_le, AV.cells, evRes, hl0] 

end Go.Proofs.Ytpddngcgajjacaa

set_option linter.unusedSimpArgs false
set_option linter.unusedVariables false
namespace Go.Proofs.Ytpddngcgajjacaa
open Go.Zz


noncomputable def G2 : Env := withSpec G0 [(10, borrowE G0 10), (13, borrowE Gs 13), (17, borrowE Gh 17), (19, borrowE G0 19), (21, borrowE G0 21)]

theorem G2_ok : EnvOk Try.prog G2 := withSpec_ok fun p hp => by
  simp only [List.mem_cons, List.not_mem_nil, or_false] at hp
  rcases hp with rfl | rfl | rfl | rfl | rfl
  · exact borrowE_ok G0_ok (callable Try.func10 (by kernel_rfl))
  · exact borrowE_ok Gs_ok (callable Try.func13 (by kernel_rfl))
  · exact borrowE_ok Gh_ok (callable Try.func17 (by kernel_rfl))
  · exact borrowE_ok G0_ok (callable Try.func19 (by kernel_rfl))
  · exact borrowE_ok G0_ok (callable Try.func21 (by kernel_rfl))

theorem eq21 {a b : AV} {xs ys : List Int} (ha : IntS a xs) (hb : IntS b ys) (h1 : xs.length < 9223372036854775808) (h2 : ys.length < 9223372036854775808) (m : Mem) : borrowE G0 21 [a, b] m = some (.bool (decide (xs = ys)), m) := by
  obtain ⟨S, hS, h⟩ := spec21.2
  cases hS
  exact h a b xs ys m ha hb h1 h2

/-- Take answers OK. -/
def Takes (gs : List Int) (ack : Bool) (ps : Int) : Prop := gs.length ≤ 1000 ∧ ack = false ∧ 0 ≤ ps ∧ ps < 1000

theorem pureTake {ack : Bool} {ps bd : Int} {g : AV} {gs : List Int} (hg : IntS g gs) : [AV.agg [g], .agg [.bool ack, .int .i64 ps, .int .i64 bd]].all pureA = true := by
  have e2 : Zz.pureC (.int .i64 ps) = true := rfl
  have e3 : Zz.pureC (.int .i64 bd) = true := rfl
  have e4 : Zz.pureC (.bool ack) = true := rfl
  simp [Zz.pureA, hg.pureC, e2, e3, e4]

theorem take_no {ps bd : Int} {ack : Bool} {g : AV} {gs : List Int} (hg : IntS g gs) (hmax : gs.length < 9223372036854775808) (h : ¬ Takes gs ack ps) (m : Mem) :
    borrowE G0 19 [.agg [g], .agg [.bool ack, .int .i64 ps, .int .i64 bd]] m = some (.tuple [.agg [.snil], .agg [.bool false, .int .i64 0, .int .i64 0], .int .i64 1], m) :=
  borrowE_of (pureTake hg) (take_bad rfl (fn_of Try.func19 cir19) hg hmax h)

theorem take_yes {ps bd : Int} {ack : Bool} {g : AV} {gs : List Int} (hg : IntS g gs) (h : Takes gs ack ps) : ∃ v, IntS v (takes gs ps bd) ∧ ∀ m,
    borrowE G0 19 [.agg [g], .agg [.bool ack, .int .i64 ps, .int .i64 bd]] m = some (.tuple [.agg [v], .agg [.bool true, .int .i64 (takes gs ps bd).length, .int .i64 0], .int .i64 0], m) := by
  obtain ⟨c1, rfl, c2, c3⟩ := h
  obtain ⟨v, hv, g⟩ := take_good (Γ := G0) rfl (fn_of Try.func19 cir19) rfl (fn_of Try.func28 cir28) hg c1 c2 c3
  exact ⟨v, hv, fun m => borrowE_of (pureTake hg) g⟩

theorem repeated_run {s ps pd qs' qd : Int} {pa qa : Bool} {q g : AV} {qs gs : List Int} (hq : IntS q qs) (hg : IntS g gs) (h1 : I64 s) (h2 : I64 ps) (h3 : I64 qs') (hmax : qs.length < 9223372036854775808) (hmax2 : gs.length < 9223372036854775808) :
    WF G2 (.func 6 [] []) [.agg [.int .i64 s, q], .agg [g], .agg [.bool pa, .int .i64 ps, .int .i64 pd], .agg [.bool qa, .int .i64 qs', .int .i64 qd]] ⟨[], []⟩ fun y m' => y = .bool true := by
  refine WF.fn rfl (fn_of Try.func6 cir6) (by show 4 ≤ 100; decide) ?_
  unfold ir6
  simp only [padTo, List.replicate, List.nil_append, List.append_nil, List.cons_append]
  have hgc := hg.cells
  refine WC.seq (WC.region ?_)
  repeat (first
    | (refine WO.yes rfl ?_)
    | (refine WO.no rfl ?_; simp only [pt])
    | (refine WO.op (by intro; simp only [go_sem, Zz.look, fillP, over, cut]; rfl) ?_; simp only [pt])
    | (refine WO.opN (by intro; simp only [go_sem, Zz.look, storeAt, over, setBlk, cut]; rfl) ?_))
  refine WO.nil ?_
  simp only [Then]
  refine WC.seq (WC.region ?_)
  refine WO.call rfl rfl (WF.spec rfl (spec10 _) ?_)
  simp only [pt]
  repeat (first
    | (refine WO.yes rfl ?_)
    | (refine WO.no rfl ?_; simp only [pt])
    | (refine WO.op (by intro; simp only [go_sem, Zz.look, fillP, over, cut]; rfl) ?_; simp only [pt])
    | (refine WO.opN (by intro; simp only [go_sem, Zz.look, storeAt, over, setBlk, cut]; rfl) ?_))
  refine WO.nil ?_
  simp only [Then]
  refine WC.seq (WC.region ?_)
  repeat (first
    | (refine WO.yes rfl ?_)
    | (refine WO.no rfl ?_; simp only [pt])
    | (refine WO.op (by intro; simp only [go_sem, Zz.look, fillP, over, cut]; rfl) ?_; simp only [pt])
    | (refine WO.opN (by intro; simp only [go_sem, Zz.look, storeAt, over, setBlk, cut]; rfl) ?_))
  by_cases hT : Takes gs pa ps
  · obtain ⟨v, hv, t1⟩ := take_yes (bd := pd) hg hT
    have hl : (takes gs ps pd).length ≤ 1000 := by
      unfold takes; unfold Takes at hT
      split
      · simp; omega
      · omega
    have hl' : ((takes gs ps pd).length : Int) ≤ 1000 := by omega
    have hT' : Takes (takes gs ps pd) pa ps := ⟨hl, hT.2⟩
    have ht2 : takes (takes gs ps pd) ps pd = takes gs ps pd := by
      unfold takes
      by_cases c : ps = gs.length
      · rw [if_pos c, if_neg (by simp; omega)]
      · rw [if_neg c, if_neg c]
    obtain ⟨w, hw, t2⟩ := take_yes (bd := pd) hv hT'
    rw [ht2] at hw t2
    have e1 := eq21 hv hw (by omega) (by omega)
    rw [decide_eq_true rfl] at e1
    refine WO.call rfl rfl (WF.spec rfl (t1 _) ?_)
    simp only [pt]
    repeat (first
      | (refine WO.yes rfl ?_)
      | (refine WO.no rfl ?_; simp only [pt])
      | (refine WO.op (by intro; simp only [go_sem, Zz.look, fillP, over, cut, hv.cells]; rfl) ?_; simp only [pt])
      | (refine WO.opN (by intro; simp only [go_sem, Zz.look, storeAt, over, setBlk, cut, hv.cells]; rfl) ?_))
    refine WO.nil ?_
    simp only [Then]
    refine WC.seq (WC.seq (WC.region ?_))
    repeat (first
      | (refine WO.yes rfl ?_)
      | (refine WO.no rfl ?_; simp only [pt])
      | (refine WO.op (by intro; simp only [go_sem, Zz.look, fillP, over, cut, beq_self_eq_true]; rfl) ?_; simp only [pt])
      | (refine WO.opN (by intro; simp only [go_sem, Zz.look, storeAt, over, setBlk, cut, beq_self_eq_true]; rfl) ?_))
    refine WO.op (by intro; exact ev_lenS (n := (takes gs ps pd).length) (by simp only [go_sem]; exact hv.len)) ?_
    simp only [pt]
    repeat (first
      | (refine WO.yes rfl ?_)
      | (refine WO.no rfl ?_; simp only [pt])
      | (refine WO.op (by intro; simp only [go_sem, Zz.look, fillP, over, cut, hl', decide_true]; rfl) ?_; simp only [pt])
      | (refine WO.opN (by intro; simp only [go_sem, Zz.look, storeAt, over, setBlk, cut, hl', decide_true]; rfl) ?_))
    refine WO.nil ?_
    simp only [Then]
    refine WC.yes (by simp only [go_sem]) (WC.seq (WC.region ?_))
    repeat (first
      | (refine WO.yes rfl ?_)
      | (refine WO.no rfl ?_; simp only [pt])
      | (refine WO.op (by intro; simp only [go_sem, Zz.look, fillP, over, cut]; rfl) ?_; simp only [pt])
      | (refine WO.opN (by intro; simp only [go_sem, Zz.look, storeAt, over, setBlk, cut]; rfl) ?_))
    refine WO.call rfl rfl (WF.spec rfl (t2 _) ?_)
    simp only [pt]
    repeat (first
      | (refine WO.yes rfl ?_)
      | (refine WO.no rfl ?_; simp only [pt])
      | (refine WO.op (by intro; simp only [go_sem, Zz.look, fillP, over, cut, hw.cells]; rfl) ?_; simp only [pt])
      | (refine WO.opN (by intro; simp only [go_sem, Zz.look, storeAt, over, setBlk, cut, hw.cells]; rfl) ?_))
    refine WO.nil ?_
    simp only [Then]
    refine WC.region ?_
    repeat (first
      | (refine WO.yes rfl ?_)
      | (refine WO.no rfl ?_; simp only [pt])
      | (refine WO.op (by intro; simp only [go_sem, Zz.look, fillP, over, cut, beq_self_eq_true]; rfl) ?_; simp only [pt])
      | (refine WO.opN (by intro; simp only [go_sem, Zz.look, storeAt, over, setBlk, cut, beq_self_eq_true]; rfl) ?_))
    refine WO.call rfl rfl (WF.spec rfl (e1 _) ?_)
    simp only [pt]
    repeat (first
      | (refine WO.yes rfl ?_)
      | (refine WO.no rfl ?_; simp only [pt])
      | (refine WO.op (by intro; simp only [go_sem, Zz.look, fillP, over, cut, cellsEq, beq_self_eq_true]; rfl) ?_; simp only [pt])
      | (refine WO.opN (by intro; simp only [go_sem, Zz.look, storeAt, over, setBlk, cut, cellsEq, beq_self_eq_true]; rfl) ?_))
    refine WO.op (by intro; exact ev_lenS (n := (takes gs ps pd).length) (by simp only [go_sem]; exact hv.len)) ?_
    simp only [pt]
    repeat (first
      | (refine WO.yes rfl ?_)
      | (refine WO.no rfl ?_; simp only [pt])
      | (refine WO.op (by intro; simp only [go_sem, Zz.look, fillP, over, cut, beq_self_eq_true]; rfl) ?_; simp only [pt])
      | (refine WO.opN (by intro; simp only [go_sem, Zz.look, storeAt, over, setBlk, cut, beq_self_eq_true]; rfl) ?_))
    refine WO.nil ?_
    simp only [Then]
    refine WC.seq (WC.region ?_)
    repeat (first
      | (refine WO.yes rfl ?_)
      | (refine WO.no rfl ?_; simp only [pt])
      | (refine WO.op (by intro; simp only [go_sem, Zz.look, fillP, over, cut]; rfl) ?_; simp only [pt])
      | (refine WO.opN (by intro; simp only [go_sem, Zz.look, storeAt, over, setBlk, cut]; rfl) ?_))
    by_cases hA : Hears s qs qa qs' qd
    · obtain ⟨v1, hv1, g1⟩ := hear_yes hq h1 h3 hmax hA
      have i1 : I64 (s + (qs' - s).toNat) := by unfold I64; unfold Hears at hA; omega
      have hA' : Hears (s + (qs' - s).toNat) (qs.drop (qs' - s).toNat) qa qs' qd := by
        unfold Hears at hA ⊢
        rw [List.length_drop]
        refine ⟨?_, hA.2.1, hA.2.2.1, ?_⟩ <;> omega
      obtain ⟨v2, hv2, g2⟩ := hear_yes hv1 i1 h3 (by rw [List.length_drop]; omega) hA'
      have es : s + (qs' - s).toNat + (qs' - (s + (qs' - s).toNat)).toNat = s + (qs' - s).toNat := by omega
      have el : ((qs.drop (qs' - s).toNat).drop (qs' - (s + (qs' - s).toNat)).toNat) = qs.drop (qs' - s).toNat := by
        rw [List.drop_drop]
        congr 1
        omega
      have g3 := spec13 (s := s + (qs' - s).toNat + (qs' - (s + (qs' - s).toNat)).toNat) (k := s + (qs' - s).toNat) hv2 hv1 (by rw [List.length_drop, List.length_drop]; omega) (by rw [List.length_drop]; omega)
      rw [decide_eq_true ⟨es, el⟩] at g3
      refine WO.call rfl rfl (WF.spec rfl (g1 _) ?_)
      simp only [pt]
      repeat (first
        | (refine WO.yes rfl ?_)
        | (refine WO.no rfl ?_; simp only [pt])
        | (refine WO.op (by intro; simp only [go_sem, Zz.look, fillP, over, cut, hv1.cells]; rfl) ?_; simp only [pt])
        | (refine WO.opN (by intro; simp only [go_sem, Zz.look, storeAt, over, setBlk, cut, hv1.cells]; rfl) ?_))
      refine WO.nil ?_
      simp only [Then]
      refine WC.seq (WC.seq (WC.region ?_))
      repeat (first
        | (refine WO.yes rfl ?_)
        | (refine WO.no rfl ?_; simp only [pt])
        | (refine WO.op (by intro; simp only [go_sem, Zz.look, fillP, over, cut, bne_self_eq_false]; rfl) ?_; simp only [pt])
        | (refine WO.opN (by intro; simp only [go_sem, Zz.look, storeAt, over, setBlk, cut, bne_self_eq_false]; rfl) ?_))
      refine WO.nil ?_
      simp only [Then]
      refine WC.no (by simp only [go_sem]) (WC.skip ?_)
      simp only [Then]
      refine WC.seq (WC.region ?_)
      repeat (first
        | (refine WO.yes rfl ?_)
        | (refine WO.no rfl ?_; simp only [pt])
        | (refine WO.op (by intro; simp only [go_sem, Zz.look, fillP, over, cut]; rfl) ?_; simp only [pt])
        | (refine WO.opN (by intro; simp only [go_sem, Zz.look, storeAt, over, setBlk, cut]; rfl) ?_))
      refine WO.call rfl rfl (WF.spec rfl (g2 _) ?_)
      simp only [pt]
      repeat (first
        | (refine WO.yes rfl ?_)
        | (refine WO.no rfl ?_; simp only [pt])
        | (refine WO.op (by intro; simp only [go_sem, Zz.look, fillP, over, cut, hv2.cells]; rfl) ?_; simp only [pt])
        | (refine WO.opN (by intro; simp only [go_sem, Zz.look, storeAt, over, setBlk, cut, hv2.cells]; rfl) ?_))
      refine WO.nil ?_
      simp only [Then]
      refine WC.seq (WC.region ?_)
      repeat (first
        | (refine WO.yes rfl ?_)
        | (refine WO.no rfl ?_; simp only [pt])
        | (refine WO.op (by intro; simp only [go_sem, Zz.look, fillP, over, cut]; rfl) ?_; simp only [pt])
        | (refine WO.opN (by intro; simp only [go_sem, Zz.look, storeAt, over, setBlk, cut]; rfl) ?_))
      refine WO.call rfl rfl (WF.spec rfl (g3 _) ?_)
      simp only [pt]
      repeat (first
        | (refine WO.yes rfl ?_)
        | (refine WO.no rfl ?_; simp only [pt])
        | (refine WO.op (by intro; simp only [go_sem, Zz.look, fillP, over, cut]; rfl) ?_; simp only [pt])
        | (refine WO.opN (by intro; simp only [go_sem, Zz.look, storeAt, over, setBlk, cut]; rfl) ?_))
      refine WO.nil ?_
      simp only [Then]
      exact WC.ret ⟨_, rfl, by simp [oneRes, gt]⟩
    · obtain ⟨c, hc, g1⟩ := hear_no hq h1 h3 hmax hA
      have hc' : (c != 0) = true := by rcases hc with rfl | rfl <;> decide
      refine WO.call rfl rfl (WF.spec rfl (g1 _) ?_)
      simp only [pt]
      repeat (first
        | (refine WO.yes rfl ?_)
        | (refine WO.no rfl ?_; simp only [pt])
        | (refine WO.op (by intro; simp only [go_sem, Zz.look, fillP, over, cut]; rfl) ?_; simp only [pt])
        | (refine WO.opN (by intro; simp only [go_sem, Zz.look, storeAt, over, setBlk, cut]; rfl) ?_))
      refine WO.nil ?_
      simp only [Then]
      refine WC.seq (WC.seq (WC.region ?_))
      repeat (first
        | (refine WO.yes rfl ?_)
        | (refine WO.no rfl ?_; simp only [pt])
        | (refine WO.op (by intro; simp only [go_sem, Zz.look, fillP, over, cut, hc']; rfl) ?_; simp only [pt])
        | (refine WO.opN (by intro; simp only [go_sem, Zz.look, storeAt, over, setBlk, cut, hc']; rfl) ?_))
      refine WO.nil ?_
      simp only [Then]
      refine WC.yes (by simp only [go_sem]) (WC.seq (WC.region ?_))
      repeat (first
        | (refine WO.yes rfl ?_)
        | (refine WO.no rfl ?_; simp only [pt])
        | (refine WO.op (by intro; simp only [go_sem, Zz.look, fillP, over, cut]; rfl) ?_; simp only [pt])
        | (refine WO.opN (by intro; simp only [go_sem, Zz.look, storeAt, over, setBlk, cut]; rfl) ?_))
      refine WO.nil ?_
      simp only [Then]
      exact WC.ret ⟨_, rfl, by simp [oneRes, gt]⟩
  · have t1 := take_no (bd := pd) hg hmax2 hT
    refine WO.call rfl rfl (WF.spec rfl (t1 _) ?_)
    simp only [pt]
    repeat (first
      | (refine WO.yes rfl ?_)
      | (refine WO.no rfl ?_; simp only [pt])
      | (refine WO.op (by intro; simp only [go_sem, Zz.look, fillP, over, cut]; rfl) ?_; simp only [pt])
      | (refine WO.opN (by intro; simp only [go_sem, Zz.look, storeAt, over, setBlk, cut]; rfl) ?_))
    refine WO.nil ?_
    simp only [Then]
    refine WC.seq (WC.seq (WC.region ?_))
    repeat (first
      | (refine WO.yes rfl ?_)
      | (refine WO.no rfl ?_; simp only [pt])
      | (refine WO.op (by intro; simp only [go_sem, Zz.look, fillP, over, cut]; rfl) ?_; simp only [pt])
      | (refine WO.opN (by intro; simp only [go_sem, Zz.look, storeAt, over, setBlk, cut]; rfl) ?_))
    refine WO.nil ?_
    simp only [Then]
    refine WC.no rfl (WC.skip ?_)
    simp only [Then]
    refine WC.seq (WC.region ?_)
    repeat (first
      | (refine WO.yes rfl ?_)
      | (refine WO.no rfl ?_; simp only [pt])
      | (refine WO.op (by intro; simp only [go_sem, Zz.look, fillP, over, cut]; rfl) ?_; simp only [pt])
      | (refine WO.opN (by intro; simp only [go_sem, Zz.look, storeAt, over, setBlk, cut]; rfl) ?_))
    by_cases hA : Hears s qs qa qs' qd
    · obtain ⟨v1, hv1, g1⟩ := hear_yes hq h1 h3 hmax hA
      have i1 : I64 (s + (qs' - s).toNat) := by unfold I64; unfold Hears at hA; omega
      have hA' : Hears (s + (qs' - s).toNat) (qs.drop (qs' - s).toNat) qa qs' qd := by
        unfold Hears at hA ⊢
        rw [List.length_drop]
        refine ⟨?_, hA.2.1, hA.2.2.1, ?_⟩ <;> omega
      obtain ⟨v2, hv2, g2⟩ := hear_yes hv1 i1 h3 (by rw [List.length_drop]; omega) hA'
      have es : s + (qs' - s).toNat + (qs' - (s + (qs' - s).toNat)).toNat = s + (qs' - s).toNat := by omega
      have el : ((qs.drop (qs' - s).toNat).drop (qs' - (s + (qs' - s).toNat)).toNat) = qs.drop (qs' - s).toNat := by
        rw [List.drop_drop]
        congr 1
        omega
      have g3 := spec13 (s := s + (qs' - s).toNat + (qs' - (s + (qs' - s).toNat)).toNat) (k := s + (qs' - s).toNat) hv2 hv1 (by rw [List.length_drop, List.length_drop]; omega) (by rw [List.length_drop]; omega)
      rw [decide_eq_true ⟨es, el⟩] at g3
      refine WO.call rfl rfl (WF.spec rfl (g1 _) ?_)
      simp only [pt]
      repeat (first
        | (refine WO.yes rfl ?_)
        | (refine WO.no rfl ?_; simp only [pt])
        | (refine WO.op (by intro; simp only [go_sem, Zz.look, fillP, over, cut, hv1.cells]; rfl) ?_; simp only [pt])
        | (refine WO.opN (by intro; simp only [go_sem, Zz.look, storeAt, over, setBlk, cut, hv1.cells]; rfl) ?_))
      refine WO.nil ?_
      simp only [Then]
      refine WC.seq (WC.seq (WC.region ?_))
      repeat (first
        | (refine WO.yes rfl ?_)
        | (refine WO.no rfl ?_; simp only [pt])
        | (refine WO.op (by intro; simp only [go_sem, Zz.look, fillP, over, cut, bne_self_eq_false]; rfl) ?_; simp only [pt])
        | (refine WO.opN (by intro; simp only [go_sem, Zz.look, storeAt, over, setBlk, cut, bne_self_eq_false]; rfl) ?_))
      refine WO.nil ?_
      simp only [Then]
      refine WC.no (by simp only [go_sem]) (WC.skip ?_)
      simp only [Then]
      refine WC.seq (WC.region ?_)
      repeat (first
        | (refine WO.yes rfl ?_)
        | (refine WO.no rfl ?_; simp only [pt])
        | (refine WO.op (by intro; simp only [go_sem, Zz.look, fillP, over, cut]; rfl) ?_; simp only [pt])
        | (refine WO.opN (by intro; simp only [go_sem, Zz.look, storeAt, over, setBlk, cut]; rfl) ?_))
      refine WO.call rfl rfl (WF.spec rfl (g2 _) ?_)
      simp only [pt]
      repeat (first
        | (refine WO.yes rfl ?_)
        | (refine WO.no rfl ?_; simp only [pt])
        | (refine WO.op (by intro; simp only [go_sem, Zz.look, fillP, over, cut, hv2.cells]; rfl) ?_; simp only [pt])
        | (refine WO.opN (by intro; simp only [go_sem, Zz.look, storeAt, over, setBlk, cut, hv2.cells]; rfl) ?_))
      refine WO.nil ?_
      simp only [Then]
      refine WC.seq (WC.region ?_)
      repeat (first
        | (refine WO.yes rfl ?_)
        | (refine WO.no rfl ?_; simp only [pt])
        | (refine WO.op (by intro; simp only [go_sem, Zz.look, fillP, over, cut]; rfl) ?_; simp only [pt])
        | (refine WO.opN (by intro; simp only [go_sem, Zz.look, storeAt, over, setBlk, cut]; rfl) ?_))
      refine WO.call rfl rfl (WF.spec rfl (g3 _) ?_)
      simp only [pt]
      repeat (first
        | (refine WO.yes rfl ?_)
        | (refine WO.no rfl ?_; simp only [pt])
        | (refine WO.op (by intro; simp only [go_sem, Zz.look, fillP, over, cut]; rfl) ?_; simp only [pt])
        | (refine WO.opN (by intro; simp only [go_sem, Zz.look, storeAt, over, setBlk, cut]; rfl) ?_))
      refine WO.nil ?_
      simp only [Then]
      exact WC.ret ⟨_, rfl, by simp [oneRes, gt]⟩
    · obtain ⟨c, hc, g1⟩ := hear_no hq h1 h3 hmax hA
      have hc' : (c != 0) = true := by rcases hc with rfl | rfl <;> decide
      refine WO.call rfl rfl (WF.spec rfl (g1 _) ?_)
      simp only [pt]
      repeat (first
        | (refine WO.yes rfl ?_)
        | (refine WO.no rfl ?_; simp only [pt])
        | (refine WO.op (by intro; simp only [go_sem, Zz.look, fillP, over, cut]; rfl) ?_; simp only [pt])
        | (refine WO.opN (by intro; simp only [go_sem, Zz.look, storeAt, over, setBlk, cut]; rfl) ?_))
      refine WO.nil ?_
      simp only [Then]
      refine WC.seq (WC.seq (WC.region ?_))
      repeat (first
        | (refine WO.yes rfl ?_)
        | (refine WO.no rfl ?_; simp only [pt])
        | (refine WO.op (by intro; simp only [go_sem, Zz.look, fillP, over, cut, hc']; rfl) ?_; simp only [pt])
        | (refine WO.opN (by intro; simp only [go_sem, Zz.look, storeAt, over, setBlk, cut, hc']; rfl) ?_))
      refine WO.nil ?_
      simp only [Then]
      refine WC.yes (by simp only [go_sem]) (WC.seq (WC.region ?_))
      repeat (first
        | (refine WO.yes rfl ?_)
        | (refine WO.no rfl ?_; simp only [pt])
        | (refine WO.op (by intro; simp only [go_sem, Zz.look, fillP, over, cut]; rfl) ?_; simp only [pt])
        | (refine WO.opN (by intro; simp only [go_sem, Zz.look, storeAt, over, setBlk, cut]; rfl) ?_))
      refine WO.nil ?_
      simp only [Then]
      exact WC.ret ⟨_, rfl, by simp [oneRes, gt]⟩
end Go.Proofs.Ytpddngcgajjacaa

