import Derived.Test.YtpddngcgajjacaaL29p
set_option linter.unusedSimpArgs false
set_option linter.unusedVariables false
namespace Go.Proofs.Ytpddngcgajjacaa
open Go.Zz


noncomputable def G2 : Env := withSpec G0 [(10, borrowE G0 10), (13, borrowE Gs 13), (17, borrowE Gh 17), (19, borrowE G0 19), (21, borrowE G0 21)]

theorem G2_ok : EnvOk Try.prog G2 := withSpec_ok fun p hp => by
  simp only [List.mem_cons, List.not_mem_nil, or_false] at hp
  rcases hp with rfl | rfl | rfl | rfl | rfl
  · exact borrowE_ok G0_ok (callable Try.func10 (by kernel_rfl))
  · exact borrowE_ok Gs_ok (callable Try.func13 (by kernel_rfl))
  · exact borrowE_ok Gh_ok (callable Try.func17 (by kernel_rfl))
  · exact borrowE_ok G0_ok (callable Try.func19 (by kernel_rfl))
  · exact borrowE_ok G0_ok (callable Try.func21 (by kernel_rfl))

theorem eq21 {a b : AV} {xs ys : List Int} (ha : IntS a xs) (hb : IntS b ys) (h1 : xs.length < 9223372036854775808) (h2 : ys.length < 9223372036854775808) (m : Mem) : borrowE G0 21 [a, b] m = some (.bool (decide (xs = ys)), m) := by
  obtain ⟨S, hS, h⟩ := spec21.2
  cases hS
  exact h a b xs ys m ha hb h1 h2

/-- Take answers OK. -/
def Takes (gs : List Int) (ack : Bool) (ps : Int) : Prop := gs.length ≤ 1000 ∧ ack = false ∧ 0 ≤ ps ∧ ps < 1000

theorem pureTake {ack : Bool} {ps bd : Int} {g : AV} {gs : List Int} (hg : IntS g gs) : [AV.agg [g], .agg [.bool ack, .int .i64 ps, .int .i64 bd]].all pureA = true := by
  have e2 : Zz.pureC (.int .i64 ps) = true := rfl
  have e3 : Zz.pureC (.int .i64 bd) = true := rfl
  have e4 : Zz.pureC (.bool ack) = true := rfl
  simp [Zz.pureA, hg.pureC, e2, e3, e4]

theorem take_no {ps bd : Int} {ack : Bool} {g : AV} {gs : List Int} (hg : IntS g gs) (hmax : gs.length < 9223372036854775808) (h : ¬ Takes gs ack ps) (m : Mem) :
    borrowE G0 19 [.agg [g], .agg [.bool ack, .int .i64 ps, .int .i64 bd]] m = some (.tuple [.agg [.snil], .agg [.bool false, .int .i64 0, .int .i64 0], .int .i64 1], m) :=
  borrowE_of (pureTake hg) (take_bad rfl (fn_of Try.func19 cir19) hg hmax h)

theorem take_yes {ps bd : Int} {ack : Bool} {g : AV} {gs : List Int} (hg : IntS g gs) (h : Takes gs ack ps) : ∃ v, IntS v (takes gs ps bd) ∧ ∀ m,
    borrowE G0 19 [.agg [g], .agg [.bool ack, .int .i64 ps, .int .i64 bd]] m = some (.tuple [.agg [v], .agg [.bool true, .int .i64 (takes gs ps bd).length, .int .i64 0], .int .i64 0], m) := by
  obtain ⟨c1, rfl, c2, c3⟩ := h
  obtain ⟨v, hv, g⟩ := take_good (Γ := G0) rfl (fn_of Try.func19 cir19) rfl (fn_of Try.func28 cir28) hg c1 c2 c3
  exact ⟨v, hv, fun m => borrowE_of (pureTake hg) g⟩

theorem repeated_run {s ps pd qs' qd : Int} {pa qa : Bool} {q g : AV} {qs gs : List Int} (hq : IntS q qs) (hg : IntS g gs) (h1 : I64 s) (h2 : I64 ps) (h3 : I64 qs') (hmax : qs.length < 9223372036854775808) (hmax2 : gs.length < 9223372036854775808) :
    WF G2 (.func 6 [] []) [.agg [.int .i64 s, q], .agg [g], .agg [.bool pa, .int .i64 ps, .int .i64 pd], .agg [.bool qa, .int .i64 qs', .int .i64 qd]] ⟨[], []⟩ fun y m' => y = .bool true := by
  refine WF.fn rfl (fn_of Try.func6 cir6) (by show 4 ≤ 100; decide) ?_
  unfold ir6
  simp only [padTo, List.replicate, List.nil_append, List.append_nil, List.cons_append]
  have hgc := hg.cells
  refine WC.seq (WC.region ?_)
  repeat (first
    | (refine WO.yes rfl ?_)
    | (refine WO.no rfl ?_; simp only [pt])
    | (refine WO.op (by intro; simp only [go_sem, Zz.look, fillP, over, cut]; rfl) ?_; simp only [pt])
    | (refine WO.opN (by intro; simp only [go_sem, Zz.look, storeAt, over, setBlk, cut]; rfl) ?_))
  refine WO.nil ?_
  simp only [Then]
  refine WC.seq (WC.region ?_)
  refine WO.call rfl rfl (WF.spec rfl (spec10 _) ?_)
  simp only [pt]
  repeat (first
    | (refine WO.yes rfl ?_)
    | (refine WO.no rfl ?_; simp only [pt])
    | (refine WO.op (by intro; simp only [go_sem, Zz.look, fillP, over, cut]; rfl) ?_; simp only [pt])
    | (refine WO.opN (by intro; simp only [go_sem, Zz.look, storeAt, over, setBlk, cut]; rfl) ?_))
  refine WO.nil ?_
  simp only [Then]
  refine WC.seq (WC.region ?_)
  repeat (first
    | (refine WO.yes rfl ?_)
    | (refine WO.no rfl ?_; simp only [pt])
    | (refine WO.op (by intro; simp only [go_sem, Zz.look, fillP, over, cut]; rfl) ?_; simp only [pt])
    | (refine WO.opN (by intro; simp only [go_sem, Zz.look, storeAt, over, setBlk, cut]; rfl) ?_))
  by_cases hT : Takes gs pa ps
  · obtain ⟨v, hv, t1⟩ := take_yes (bd := pd) hg hT
    have hl : (takes gs ps pd).length ≤ 1000 := by
      unfold takes; unfold Takes at hT
      split
      · simp; omega
      · omega
    have hl' : ((takes gs ps pd).length : Int) ≤ 1000 := by omega
    have hT' : Takes (takes gs ps pd) pa ps := ⟨hl, hT.2⟩
    have ht2 : takes (takes gs ps pd) ps pd = takes gs ps pd := by
      unfold takes
      by_cases c : ps = gs.length
      · rw [if_pos c, if_neg (by simp; omega)]
      · rw [if_neg c, if_neg c]
    obtain ⟨w, hw, t2⟩ := take_yes (bd := pd) hv hT'
    rw [ht2] at hw t2
    have e1 := eq21 hv hw (by omega) (by omega)
    rw [decide_eq_true rfl] at e1
    refine WO.call rfl rfl (WF.spec rfl (t1 _) ?_)
    simp only [pt]
    repeat (first
      | (refine WO.yes rfl ?_)
      | (refine WO.no rfl ?_; simp only [pt])
      | (refine WO.op (by intro; simp only [go_sem, Zz.look, fillP, over, cut, hv.cells]; rfl) ?_; simp only [pt])
      | (refine WO.opN (by intro; simp only [go_sem, Zz.look, storeAt, over, setBlk, cut, hv.cells]; rfl) ?_))
    refine WO.nil ?_
    simp only [Then]
    refine WC.seq (WC.seq (WC.region ?_))
    repeat (first
      | (refine WO.yes rfl ?_)
      | (refine WO.no rfl ?_; simp only [pt])
      | (refine WO.op (by intro; simp only [go_sem, Zz.look, fillP, over, cut, beq_self_eq_true]; rfl) ?_; simp only [pt])
      | (refine WO.opN (by intro; simp only [go_sem, Zz.look, storeAt, over, setBlk, cut, beq_self_eq_true]; rfl) ?_))
    refine WO.op (by intro; exact ev_lenS (n := (takes gs ps pd).length) (by simp only [go_sem]; exact hv.len)) ?_
    simp only [pt]
    repeat (first
      | (refine WO.yes rfl ?_)
      | (refine WO.no rfl ?_; simp only [pt])
      | (refine WO.op (by intro; simp only [go_sem, Zz.look, fillP, over, cut, hl', decide_true]; rfl) ?_; simp only [pt])
      | (refine WO.opN (by intro; simp only [go_sem, Zz.look, storeAt, over, setBlk, cut, hl', decide_true]; rfl) ?_))
    refine WO.nil ?_
    simp only [Then]
    refine WC.yes (by simp only [go_sem]) (WC.seq (WC.region ?_))
    repeat (first
      | (refine WO.yes rfl ?_)
      | (refine WO.no rfl ?_; simp only [pt])
      | (refine WO.op (by intro; simp only [go_sem, Zz.look, fillP, over, cut]; rfl) ?_; simp only [pt])
      | (refine WO.opN (by intro; simp only [go_sem, Zz.look, storeAt, over, setBlk, cut]; rfl) ?_))
    refine WO.call rfl rfl (WF.spec rfl (t2 _) ?_)
    simp only [pt]
    repeat (first
      | (refine WO.yes rfl ?_)
      | (refine WO.no rfl ?_; simp only [pt])
      | (refine WO.op (by intro; simp only [go_sem, Zz.look, fillP, over, cut, hw.cells]; rfl) ?_; simp only [pt])
      | (refine WO.opN (by intro; simp only [go_sem, Zz.look, storeAt, over, setBlk, cut, hw.cells]; rfl) ?_))
    refine WO.nil ?_
    simp only [Then]
    refine WC.region ?_
    repeat (first
      | (refine WO.yes rfl ?_)
      | (refine WO.no rfl ?_; simp only [pt])
      | (refine WO.op (by intro; simp only [go_sem, Zz.look, fillP, over, cut, beq_self_eq_true]; rfl) ?_; simp only [pt])
      | (refine WO.opN (by intro; simp only [go_sem, Zz.look, storeAt, over, setBlk, cut, beq_self_eq_true]; rfl) ?_))
    refine WO.call rfl rfl (WF.spec rfl (e1 _) ?_)
    simp only [pt]
    repeat (first
      | (refine WO.yes rfl ?_)
      | (refine WO.no rfl ?_; simp only [pt])
      | (refine WO.op (by intro; simp only [go_sem, Zz.look, fillP, over, cut, cellsEq, beq_self_eq_true]; rfl) ?_; simp only [pt])
      | (refine WO.opN (by intro; simp only [go_sem, Zz.look, storeAt, over, setBlk, cut, cellsEq, beq_self_eq_true]; rfl) ?_))
    refine WO.op (by intro; exact ev_lenS (n := (takes gs ps pd).length) (by simp only [go_sem]; exact hv.len)) ?_
    simp only [pt]
    repeat (first
      | (refine WO.yes rfl ?_)
      | (refine WO.no rfl ?_; simp only [pt])
      | (refine WO.op (by intro; simp only [go_sem, Zz.look, fillP, over, cut, beq_self_eq_true]; rfl) ?_; simp only [pt])
      | (refine WO.opN (by intro; simp only [go_sem, Zz.look, storeAt, over, setBlk, cut, beq_self_eq_true]; rfl) ?_))
    refine WO.nil ?_
    simp only [Then]
    refine WC.seq (WC.region ?_)
    repeat (first
      | (refine WO.yes rfl ?_)
      | (refine WO.no rfl ?_; simp only [pt])
      | (refine WO.op (by intro; simp only [go_sem, Zz.look, fillP, over, cut]; rfl) ?_; simp only [pt])
      | (refine WO.opN (by intro; simp only [go_sem, Zz.look, storeAt, over, setBlk, cut]; rfl) ?_))
    by_cases hA : Hears s qs qa qs' qd
    · obtain ⟨v1, hv1, g1⟩ := hear_yes hq h1 h3 hmax hA
      have i1 : I64 (s + (qs' - s).toNat) := by unfold I64; unfold Hears at hA; omega
      have hA' : Hears (s + (qs' - s).toNat) (qs.drop (qs' - s).toNat) qa qs' qd := by
        unfold Hears at hA ⊢
        rw [List.length_drop]
        refine ⟨?_, hA.2.1, hA.2.2.1, ?_⟩ <;> omega
      obtain ⟨v2, hv2, g2⟩ := hear_yes hv1 i1 h3 (by rw [List.length_drop]; omega) hA'
      have es : s + (qs' - s).toNat + (qs' - (s + (qs' - s).toNat)).toNat = s + (qs' - s).toNat := by omega
      have el : ((qs.drop (qs' - s).toNat).drop (qs' - (s + (qs' - s).toNat)).toNat) = qs.drop (qs' - s).toNat := by
        rw [List.drop_drop]
        congr 1
        omega
      have g3 := spec13 (s := s + (qs' - s).toNat + (qs' - (s + (qs' - s).toNat)).toNat) (k := s + (qs' - s).toNat) hv2 hv1 (by rw [List.length_drop, List.length_drop]; omega) (by rw [List.length_drop]; omega)
      rw [decide_eq_true ⟨es, el⟩] at g3
      refine WO.call rfl rfl (WF.spec rfl (g1 _) ?_)
      simp only [pt]
      repeat (first
        | (refine WO.yes rfl ?_)
        | (refine WO.no rfl ?_; simp only [pt])
        | (refine WO.op (by intro; simp only [go_sem, Zz.look, fillP, over, cut, hv1.cells]; rfl) ?_; simp only [pt])
        | (refine WO.opN (by intro; simp only [go_sem, Zz.look, storeAt, over, setBlk, cut, hv1.cells]; rfl) ?_))
      refine WO.nil ?_
      simp only [Then]
      refine WC.seq (WC.seq (WC.region ?_))
      repeat (first
        | (refine WO.yes rfl ?_)
        | (refine WO.no rfl ?_; simp only [pt])
        | (refine WO.op (by intro; simp only [go_sem, Zz.look, fillP, over, cut, bne_self_eq_false]; rfl) ?_; simp only [pt])
        | (refine WO.opN (by intro; simp only [go_sem, Zz.look, storeAt, over, setBlk, cut, bne_self_eq_false]; rfl) ?_))
      refine WO.nil ?_
      simp only [Then]
      refine WC.no (by simp only [go_sem]) (WC.skip ?_)
      simp only [Then]
      refine WC.seq (WC.region ?_)
      repeat (first
        | (refine WO.yes rfl ?_)
        | (refine WO.no rfl ?_; simp only [pt])
        | (refine WO.op (by intro; simp only [go_sem, Zz.look, fillP, over, cut]; rfl) ?_; simp only [pt])
        | (refine WO.opN (by intro; simp only [go_sem, Zz.look, storeAt, over, setBlk, cut]; rfl) ?_))
      refine WO.call rfl rfl (WF.spec rfl (g2 _) ?_)
      simp only [pt]
      repeat (first
        | (refine WO.yes rfl ?_)
        | (refine WO.no rfl ?_; simp only [pt])
        | (refine WO.op (by intro; simp only [go_sem, Zz.look, fillP, over, cut, hv2.cells]; rfl) ?_; simp only [pt])
        | (refine WO.opN (by intro; simp only [go_sem, Zz.look, storeAt, over, setBlk, cut, hv2.cells]; rfl) ?_))
      refine WO.nil ?_
      simp only [Then]
      refine WC.seq (WC.region ?_)
      repeat (first
        | (refine WO.yes rfl ?_)
        | (refine WO.no rfl ?_; simp only [pt])
        | (refine WO.op (by intro; simp only [go_sem, Zz.look, fillP, over, cut]; rfl) ?_; simp only [pt])
        | (refine WO.opN (by intro; simp only [go_sem, Zz.look, storeAt, over, setBlk, cut]; rfl) ?_))
      refine WO.call rfl rfl (WF.spec rfl (g3 _) ?_)
      simp only [pt]
      repeat (first
        | (refine WO.yes rfl ?_)
        | (refine WO.no rfl ?_; simp only [pt])
        | (refine WO.op (by intro; simp only [go_sem, Zz.look, fillP, over, cut]; rfl) ?_; simp only [pt])
        | (refine WO.opN (by intro; simp only [go_sem, Zz.look, storeAt, over, setBlk, cut]; rfl) ?_))
      refine WO.nil ?_
      simp only [Then]
      exact WC.ret ⟨_, rfl, by simp [oneRes, gt]⟩
    · obtain ⟨c, hc, g1⟩ := hear_no hq h1 h3 hmax hA
      have hc' : (c != 0) = true := by rcases hc with rfl | rfl <;> decide
      refine WO.call rfl rfl (WF.spec rfl (g1 _) ?_)
      simp only [pt]
      repeat (first
        | (refine WO.yes rfl ?_)
        | (refine WO.no rfl ?_; simp only [pt])
        | (refine WO.op (by intro; simp only [go_sem, Zz.look, fillP, over, cut]; rfl) ?_; simp only [pt])
        | (refine WO.opN (by intro; simp only [go_sem, Zz.look, storeAt, over, setBlk, cut]; rfl) ?_))
      refine WO.nil ?_
      simp only [Then]
      refine WC.seq (WC.seq (WC.region ?_))
      repeat (first
        | (refine WO.yes rfl ?_)
        | (refine WO.no rfl ?_; simp only [pt])
        | (refine WO.op (by intro; simp only [go_sem, Zz.look, fillP, over, cut, hc']; rfl) ?_; simp only [pt])
        | (refine WO.opN (by intro; simp only [go_sem, Zz.look, storeAt, over, setBlk, cut, hc']; rfl) ?_))
      refine WO.nil ?_
      simp only [Then]
      refine WC.yes (by simp only [go_sem]) (WC.seq (WC.region ?_))
      repeat (first
        | (refine WO.yes rfl ?_)
        | (refine WO.no rfl ?_; simp only [pt])
        | (refine WO.op (by intro; simp only [go_sem, Zz.look, fillP, over, cut]; rfl) ?_; simp only [pt])
        | (refine WO.opN (by intro; simp only [go_sem, Zz.look, storeAt, over, setBlk, cut]; rfl) ?_))
      refine WO.nil ?_
      simp only [Then]
      exact WC.ret ⟨_, rfl, by simp [oneRes, gt]⟩
  · have t1 := take_no (bd := pd) hg hmax2 hT
    refine WO.call rfl rfl (WF.spec rfl (t1 _) ?_)
    simp only [pt]
    repeat (first
      | (refine WO.yes rfl ?_)
      | (refine WO.no rfl ?_; simp only [pt])
      | (refine WO.op (by intro; simp only [go_sem, Zz.look, fillP, over, cut]; rfl) ?_; simp only [pt])
      | (refine WO.opN (by intro; simp only [go_sem, Zz.look, storeAt, over, setBlk, cut]; rfl) ?_))
    refine WO.nil ?_
    simp only [Then]
    refine WC.seq (WC.seq (WC.region ?_))
    repeat (first
      | (refine WO.yes rfl ?_)
      | (refine WO.no rfl ?_; simp only [pt])
      | (refine WO.op (by intro; simp only [go_sem, Zz.look, fillP, over, cut]; rfl) ?_; simp only [pt])
      | (refine WO.opN (by intro; simp only [go_sem, Zz.look, storeAt, over, setBlk, cut]; rfl) ?_))
    refine WO.nil ?_
    simp only [Then]
    refine WC.no rfl (WC.skip ?_)
    simp only [Then]
    refine WC.seq (WC.region ?_)
    repeat (first
      | (refine WO.yes rfl ?_)
      | (refine WO.no rfl ?_; simp only [pt])
      | (refine WO.op (by intro; simp only [go_sem, Zz.look, fillP, over, cut]; rfl) ?_; simp only [pt])
      | (refine WO.opN (by intro; simp only [go_sem, Zz.look, storeAt, over, setBlk, cut]; rfl) ?_))
    by_cases hA : Hears s qs qa qs' qd
    · obtain ⟨v1, hv1, g1⟩ := hear_yes hq h1 h3 hmax hA
      have i1 : I64 (s + (qs' - s).toNat) := by unfold I64; unfold Hears at hA; omega
      have hA' : Hears (s + (qs' - s).toNat) (qs.drop (qs' - s).toNat) qa qs' qd := by
        unfold Hears at hA ⊢
        rw [List.length_drop]
        refine ⟨?_, hA.2.1, hA.2.2.1, ?_⟩ <;> omega
      obtain ⟨v2, hv2, g2⟩ := hear_yes hv1 i1 h3 (by rw [List.length_drop]; omega) hA'
      have es : s + (qs' - s).toNat + (qs' - (s + (qs' - s).toNat)).toNat = s + (qs' - s).toNat := by omega
      have el : ((qs.drop (qs' - s).toNat).drop (qs' - (s + (qs' - s).toNat)).toNat) = qs.drop (qs' - s).toNat := by
        rw [List.drop_drop]
        congr 1
        omega
      have g3 := spec13 (s := s + (qs' - s).toNat + (qs' - (s + (qs' - s).toNat)).toNat) (k := s + (qs' - s).toNat) hv2 hv1 (by rw [List.length_drop, List.length_drop]; omega) (by rw [List.length_drop]; omega)
      rw [decide_eq_true ⟨es, el⟩] at g3
      refine WO.call rfl rfl (WF.spec rfl (g1 _) ?_)
      simp only [pt]
      repeat (first
        | (refine WO.yes rfl ?_)
        | (refine WO.no rfl ?_; simp only [pt])
        | (refine WO.op (by intro; simp only [go_sem, Zz.look, fillP, over, cut, hv1.cells]; rfl) ?_; simp only [pt])
        | (refine WO.opN (by intro; simp only [go_sem, Zz.look, storeAt, over, setBlk, cut, hv1.cells]; rfl) ?_))
      refine WO.nil ?_
      simp only [Then]
      refine WC.seq (WC.seq (WC.region ?_))
      repeat (first
        | (refine WO.yes rfl ?_)
        | (refine WO.no rfl ?_; simp only [pt])
        | (refine WO.op (by intro; simp only [go_sem, Zz.look, fillP, over, cut, bne_self_eq_false]; rfl) ?_; simp only [pt])
        | (refine WO.opN (by intro; simp only [go_sem, Zz.look, storeAt, over, setBlk, cut, bne_self_eq_false]; rfl) ?_))
      refine WO.nil ?_
      simp only [Then]
      refine WC.no (by simp only [go_sem]) (WC.skip ?_)
      simp only [Then]
      refine WC.seq (WC.region ?_)
      repeat (first
        | (refine WO.yes rfl ?_)
        | (refine WO.no rfl ?_; simp only [pt])
        | (refine WO.op (by intro; simp only [go_sem, Zz.look, fillP, over, cut]; rfl) ?_; simp only [pt])
        | (refine WO.opN (by intro; simp only [go_sem, Zz.look, storeAt, over, setBlk, cut]; rfl) ?_))
      refine WO.call rfl rfl (WF.spec rfl (g2 _) ?_)
      simp only [pt]
      repeat (first
        | (refine WO.yes rfl ?_)
        | (refine WO.no rfl ?_; simp only [pt])
        | (refine WO.op (by intro; simp only [go_sem, Zz.look, fillP, over, cut, hv2.cells]; rfl) ?_; simp only [pt])
        | (refine WO.opN (by intro; simp only [go_sem, Zz.look, storeAt, over, setBlk, cut, hv2.cells]; rfl) ?_))
      refine WO.nil ?_
      simp only [Then]
      refine WC.seq (WC.region ?_)
      repeat (first
        | (refine WO.yes rfl ?_)
        | (refine WO.no rfl ?_; simp only [pt])
        | (refine WO.op (by intro; simp only [go_sem, Zz.look, fillP, over, cut]; rfl) ?_; simp only [pt])
        | (refine WO.opN (by intro; simp only [go_sem, Zz.look, storeAt, over, setBlk, cut]; rfl) ?_))
      refine WO.call rfl rfl (WF.spec rfl (g3 _) ?_)
      simp only [pt]
      repeat (first
        | (refine WO.yes rfl ?_)
        | (refine WO.no rfl ?_; simp only [pt])
        | (refine WO.op (by intro; simp only [go_sem, Zz.look, fillP, over, cut]; rfl) ?_; simp only [pt])
        | (refine WO.opN (by intro; simp only [go_sem, Zz.look, storeAt, over, setBlk, cut]; rfl) ?_))
      refine WO.nil ?_
      simp only [Then]
      exact WC.ret ⟨_, rfl, by simp [oneRes, gt]⟩
    · obtain ⟨c, hc, g1⟩ := hear_no hq h1 h3 hmax hA
      have hc' : (c != 0) = true := by rcases hc with rfl | rfl <;> decide
      refine WO.call rfl rfl (WF.spec rfl (g1 _) ?_)
      simp only [pt]
      repeat (first
        | (refine WO.yes rfl ?_)
        | (refine WO.no rfl ?_; simp only [pt])
        | (refine WO.op (by intro; simp only [go_sem, Zz.look, fillP, over, cut]; rfl) ?_; simp only [pt])
        | (refine WO.opN (by intro; simp only [go_sem, Zz.look, storeAt, over, setBlk, cut]; rfl) ?_))
      refine WO.nil ?_
      simp only [Then]
      refine WC.seq (WC.seq (WC.region ?_))
      repeat (first
        | (refine WO.yes rfl ?_)
        | (refine WO.no rfl ?_; simp only [pt])
        | (refine WO.op (by intro; simp only [go_sem, Zz.look, fillP, over, cut, hc']; rfl) ?_; simp only [pt])
        | (refine WO.opN (by intro; simp only [go_sem, Zz.look, storeAt, over, setBlk, cut, hc']; rfl) ?_))
      refine WO.nil ?_
      simp only [Then]
      refine WC.yes (by simp only [go_sem]) (WC.seq (WC.region ?_))
      repeat (first
        | (refine WO.yes rfl ?_)
        | (refine WO.no rfl ?_; simp only [pt])
        | (refine WO.op (by intro; simp only [go_sem, Zz.look, fillP, over, cut]; rfl) ?_; simp only [pt])
        | (refine WO.opN (by intro; simp only [go_sem, Zz.look, storeAt, over, setBlk, cut]; rfl) ?_))
      refine WO.nil ?_
      simp only [Then]
      exact WC.ret ⟨_, rfl, by simp [oneRes, gt]⟩
end Go.Proofs.Ytpddngcgajjacaa
