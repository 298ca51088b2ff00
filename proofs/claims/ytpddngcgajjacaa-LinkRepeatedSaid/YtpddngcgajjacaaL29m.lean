import Derived.Test.YtpddngcgajjacaaL29l
set_option linter.unusedSimpArgs false
set_option linter.unusedVariables false
namespace Go.Proofs.Ytpddngcgajjacaa
open Go.Zz

/-- Hear answers OK. -/
def Hears (s : Int) (qs : List Int) (ack : Bool) (ps bd : Int) : Prop := (0 ≤ s ∧ s ≤ 1000 ∧ (qs.length : Int) ≤ 1000 - s) ∧ ack = true ∧ bd = 0 ∧ 0 ≤ ps ∧ ps ≤ 1000 ∧ ps - s ≤ qs.length

theorem hear_no {s ps bd : Int} {ack : Bool} {q : AV} {qs : List Int} (hq : IntS q qs) (h1 : I64 s) (h2 : I64 ps) (hmax : qs.length < 9223372036854775808) (h : ¬ Hears s qs ack ps bd) :
    ∃ c : Int, (c = 1 ∨ c = 6) ∧ ∀ m, borrowE Gh 17 [.agg [.int .i64 s, q], .agg [.bool ack, .int .i64 ps, .int .i64 bd]] m = some (.tuple [.agg [.int .i64 0, .snil], .int .i64 c], m) := by
  obtain ⟨f1, f2, f3⟩ := spec17 (ack := ack) (bd := bd) hq h1 h2 hmax
  by_cases hb : (0 ≤ s ∧ s ≤ 1000 ∧ (qs.length : Int) ≤ 1000 - s) ∧ ack = true ∧ bd = 0 ∧ 0 ≤ ps ∧ ps ≤ 1000
  · exact ⟨6, .inr rfl, f2 hb (by have : ¬ (ps - s ≤ qs.length) := fun hl => h ⟨hb.1, hb.2.1, hb.2.2.1, hb.2.2.2.1, hb.2.2.2.2, hl⟩; omega)⟩
  · exact ⟨1, .inl rfl, f1 hb⟩

theorem hear_yes {s ps bd : Int} {ack : Bool} {q : AV} {qs : List Int} (hq : IntS q qs) (h1 : I64 s) (h2 : I64 ps) (hmax : qs.length < 9223372036854775808) (h : Hears s qs ack ps bd) :
    ∃ v, IntS v (qs.drop (ps - s).toNat) ∧ ∀ m, borrowE Gh 17 [.agg [.int .i64 s, q], .agg [.bool ack, .int .i64 ps, .int .i64 bd]] m = some (.tuple [.agg [.int .i64 (s + (ps - s).toNat), v], .int .i64 0], m) := by
  obtain ⟨f1, f2, f3⟩ := spec17 (ack := ack) (bd := bd) hq h1 h2 hmax
  unfold Hears at h
  exact f3 ⟨h.1, h.2.1, h.2.2.1, h.2.2.2.1, h.2.2.2.2.1⟩ (by omega)

theorem hear_any {s ps bd : Int} {ack : Bool} {q : AV} {qs : List Int} (hq : IntS q qs) (h1 : I64 s) (h2 : I64 ps) (hmax : qs.length < 9223372036854775808) :
    ∃ (s' : Int) (v : AV) (vs : List Int) (c : Int), IntS v vs ∧ ∀ m, borrowE Gh 17 [.agg [.int .i64 s, q], .agg [.bool ack, .int .i64 ps, .int .i64 bd]] m = some (.tuple [.agg [.int .i64 s', v], .int .i64 c], m) := by
  by_cases h : Hears s qs ack ps bd
  · obtain ⟨v, hv, g⟩ := hear_yes hq h1 h2 hmax h
    exact ⟨_, v, _, _, hv, g⟩
  · obtain ⟨c, _, g⟩ := hear_no hq h1 h2 hmax h
    exact ⟨_, .snil, [], c, .inl ⟨rfl, rfl⟩, g⟩

theorem overtaken_run {s ps pd qs' qd : Int} {pa qa : Bool} {q : AV} {qs : List Int} (hq : IntS q qs) (h1 : I64 s) (h2 : I64 ps) (h3 : I64 qs') (hmax : qs.length < 9223372036854775808) :
    WF G1 (.func 7 [] []) [.agg [.int .i64 s, q], .agg [.bool pa, .int .i64 ps, .int .i64 pd], .agg [.bool qa, .int .i64 qs', .int .i64 qd]] ⟨[], []⟩ fun y m' => y = .bool true := by
  refine WF.fn rfl (fn_of Try.func7 cir7) (by show 3 ≤ 72; decide) ?_
  unfold ir7
  simp only [padTo, List.replicate, List.nil_append, List.append_nil, List.cons_append]
  refine WC.seq (WC.region ?_)
  repeat (first
    | (refine WO.yes rfl ?_)
    | (refine WO.no rfl ?_; simp only [pt])
    | (refine WO.op (by intro; simp only [go_sem, Zz.look, fillP, over, cut]; rfl) ?_; simp only [pt])
    | (refine WO.opN (by intro; simp only [go_sem, Zz.look, storeAt, over, setBlk, cut]; rfl) ?_))
  refine WO.nil ?_
  simp only [Then]
  refine WC.seq (WC.region ?_)
  refine WO.call rfl rfl (WF.spec rfl (spec10 _) ?_)
  simp only [pt]
  repeat (first
    | (refine WO.yes rfl ?_)
    | (refine WO.no rfl ?_; simp only [pt])
    | (refine WO.op (by intro; simp only [go_sem, Zz.look, fillP, over, cut]; rfl) ?_; simp only [pt])
    | (refine WO.opN (by intro; simp only [go_sem, Zz.look, storeAt, over, setBlk, cut]; rfl) ?_))
  refine WO.nil ?_
  simp only [Then]
  refine WC.seq (WC.region ?_)
  repeat (first
    | (refine WO.yes rfl ?_)
    | (refine WO.no rfl ?_; simp only [pt])
    | (refine WO.op (by intro; simp only [go_sem, Zz.look, fillP, over, cut]; rfl) ?_; simp only [pt])
    | (refine WO.opN (by intro; simp only [go_sem, Zz.look, storeAt, over, setBlk, cut]; rfl) ?_))
  by_cases hA : Hears s qs pa ps pd
  · obtain ⟨v1, hv1, g1⟩ := hear_yes hq h1 h2 hmax hA
    refine WO.call rfl rfl (WF.spec rfl (g1 _) ?_)
    simp only [pt]
    repeat (first
      | (refine WO.yes rfl ?_)
      | (refine WO.no rfl ?_; simp only [pt])
      | (refine WO.op (by intro; simp only [go_sem, Zz.look, fillP, over, cut, hv1.cells]; rfl) ?_; simp only [pt])
      | (refine WO.opN (by intro; simp only [go_sem, Zz.look, storeAt, over, setBlk, cut, hv1.cells]; rfl) ?_))
    refine WO.nil ?_
    simp only [Then]
    refine WC.seq (WC.region ?_)
    repeat (first
      | (refine WO.yes rfl ?_)
      | (refine WO.no rfl ?_; simp only [pt])
      | (refine WO.op (by intro; simp only [go_sem, Zz.look, fillP, over, cut]; rfl) ?_; simp only [pt])
      | (refine WO.opN (by intro; simp only [go_sem, Zz.look, storeAt, over, setBlk, cut]; rfl) ?_))
    by_cases hB : Hears s qs qa qs' qd
    · obtain ⟨v2, hv2, g2⟩ := hear_yes hq h1 h3 hmax hB
      have i1 : I64 (s + (ps - s).toNat) := by unfold I64; unfold Hears at hA; omega
      have i2 : I64 (s + (qs' - s).toNat) := by unfold I64; unfold Hears at hB; omega
      have hA' : Hears (s + (qs' - s).toNat) (qs.drop (qs' - s).toNat) pa ps pd := by
        unfold Hears at hA hB ⊢
        rw [List.length_drop]
        refine ⟨?_, hA.2.1, hA.2.2.1, ?_⟩ <;> omega
      have hB' : Hears (s + (ps - s).toNat) (qs.drop (ps - s).toNat) qa qs' qd := by
        unfold Hears at hA hB ⊢
        rw [List.length_drop]
        refine ⟨?_, hB.2.1, hB.2.2.1, ?_⟩ <;> omega
      obtain ⟨v3, hv3, g3⟩ := hear_yes hv1 i1 h3 (by rw [List.length_drop]; omega) hB'
      obtain ⟨v4, hv4, g4⟩ := hear_yes hv2 i2 h2 (by rw [List.length_drop]; omega) hA'
      have es : s + (ps - s).toNat + (qs' - (s + (ps - s).toNat)).toNat = s + (qs' - s).toNat + (ps - (s + (qs' - s).toNat)).toNat := by omega
      have el : ((qs.drop (ps - s).toNat).drop (qs' - (s + (ps - s).toNat)).toNat) = ((qs.drop (qs' - s).toNat).drop (ps - (s + (qs' - s).toNat)).toNat) := by
        rw [List.drop_drop, List.drop_drop]
        congr 1
        omega
      have hle : s ≤ s + (ps - s).toNat + (qs' - (s + (ps - s).toNat)).toNat := by omega
      have g5 := spec13 (s := s + (ps - s).toNat + (qs' - (s + (ps - s).toNat)).toNat) (k := s + (qs' - s).toNat + (ps - (s + (qs' - s).toNat)).toNat) hv3 hv4 (by rw [List.length_drop, List.length_drop]; omega) (by rw [List.length_drop, List.length_drop]; omega)
      rw [decide_eq_true ⟨es, el⟩] at g5
      refine WO.call rfl rfl (WF.spec rfl (g2 _) ?_)
      simp only [pt]
      repeat (first
        | (refine WO.yes rfl ?_)
        | (refine WO.no rfl ?_; simp only [pt])
        | (refine WO.op (by intro; simp only [go_sem, Zz.look, fillP, over, cut, hv2.cells]; rfl) ?_; simp only [pt])
        | (refine WO.opN (by intro; simp only [go_sem, Zz.look, storeAt, over, setBlk, cut, hv2.cells]; rfl) ?_))
      refine WO.nil ?_
      simp only [Then]
      refine WC.seq (WC.seq (WC.region ?_))
      repeat (first
        | (refine WO.yes rfl ?_)
        | (refine WO.no rfl ?_; simp only [pt])
        | (refine WO.op (by intro; simp only [go_sem, Zz.look, fillP, over, cut, bne_self_eq_false]; rfl) ?_; simp only [pt])
        | (refine WO.opN (by intro; simp only [go_sem, Zz.look, storeAt, over, setBlk, cut, bne_self_eq_false]; rfl) ?_))
      refine WO.nil ?_
      simp only [Then]
      refine WC.no (by simp only [go_sem]) (WC.skip ?_)
      simp only [Then]
      refine WC.seq (WC.region ?_)
      repeat (first
        | (refine WO.yes rfl ?_)
        | (refine WO.no rfl ?_; simp only [pt])
        | (refine WO.op (by intro; simp only [go_sem, Zz.look, fillP, over, cut]; rfl) ?_; simp only [pt])
        | (refine WO.opN (by intro; simp only [go_sem, Zz.look, storeAt, over, setBlk, cut]; rfl) ?_))
      refine WO.call rfl rfl (WF.spec rfl (g3 _) ?_)
      simp only [pt]
      repeat (first
        | (refine WO.yes rfl ?_)
        | (refine WO.no rfl ?_; simp only [pt])
        | (refine WO.op (by intro; simp only [go_sem, Zz.look, fillP, over, cut, hv3.cells]; rfl) ?_; simp only [pt])
        | (refine WO.opN (by intro; simp only [go_sem, Zz.look, storeAt, over, setBlk, cut, hv3.cells]; rfl) ?_))
      refine WO.nil ?_
      simp only [Then]
      refine WC.seq (WC.region ?_)
      repeat (first
        | (refine WO.yes rfl ?_)
        | (refine WO.no rfl ?_; simp only [pt])
        | (refine WO.op (by intro; simp only [go_sem, Zz.look, fillP, over, cut]; rfl) ?_; simp only [pt])
        | (refine WO.opN (by intro; simp only [go_sem, Zz.look, storeAt, over, setBlk, cut]; rfl) ?_))
      refine WO.call rfl rfl (WF.spec rfl (g4 _) ?_)
      simp only [pt]
      repeat (first
        | (refine WO.yes rfl ?_)
        | (refine WO.no rfl ?_; simp only [pt])
        | (refine WO.op (by intro; simp only [go_sem, Zz.look, fillP, over, cut, hv4.cells]; rfl) ?_; simp only [pt])
        | (refine WO.opN (by intro; simp only [go_sem, Zz.look, storeAt, over, setBlk, cut, hv4.cells]; rfl) ?_))
      refine WO.nil ?_
      simp only [Then]
      refine WC.seq (WC.region ?_)
      repeat (first
        | (refine WO.yes rfl ?_)
        | (refine WO.no rfl ?_; simp only [pt])
        | (refine WO.op (by intro; simp only [go_sem, Zz.look, fillP, over, cut]; rfl) ?_; simp only [pt])
        | (refine WO.opN (by intro; simp only [go_sem, Zz.look, storeAt, over, setBlk, cut]; rfl) ?_))
      refine WO.call rfl rfl (WF.spec rfl (g5 _) ?_)
      simp only [pt]
      repeat (first
        | (refine WO.yes rfl ?_)
        | (refine WO.no rfl ?_; simp only [pt])
        | (refine WO.op (by intro; simp only [go_sem, Zz.look, fillP, over, cut, hle, decide_true]; rfl) ?_; simp only [pt])
        | (refine WO.opN (by intro; simp only [go_sem, Zz.look, storeAt, over, setBlk, cut, hle, decide_true]; rfl) ?_))
      refine WO.nil ?_
      simp only [Then]
      refine WC.ret ⟨_, rfl, ?_⟩
      simp [oneRes, gt]
    · obtain ⟨c, hc, g2⟩ := hear_no hq h1 h3 hmax hB
      have hc' : (c != 0) = true := by rcases hc with rfl | rfl <;> decide
      refine WO.call rfl rfl (WF.spec rfl (g2 _) ?_)
      simp only [pt]
      repeat (first
        | (refine WO.yes rfl ?_)
        | (refine WO.no rfl ?_; simp only [pt])
        | (refine WO.op (by intro; simp only [go_sem, Zz.look, fillP, over, cut]; rfl) ?_; simp only [pt])
        | (refine WO.opN (by intro; simp only [go_sem, Zz.look, storeAt, over, setBlk, cut]; rfl) ?_))
      refine WO.nil ?_
      simp only [Then]
      refine WC.seq (WC.seq (WC.region ?_))
      repeat (first
        | (refine WO.yes rfl ?_)
        | (refine WO.no rfl ?_; simp only [pt])
        | (refine WO.op (by intro; simp only [go_sem, Zz.look, fillP, over, cut, bne_self_eq_false, hc']; rfl) ?_; simp only [pt])
        | (refine WO.opN (by intro; simp only [go_sem, Zz.look, storeAt, over, setBlk, cut, bne_self_eq_false, hc']; rfl) ?_))
      refine WO.nil ?_
      simp only [Then]
      refine WC.yes (by simp only [go_sem]) (WC.seq (WC.region ?_))
      repeat (first
        | (refine WO.yes rfl ?_)
        | (refine WO.no rfl ?_; simp only [pt])
        | (refine WO.op (by intro; simp only [go_sem, Zz.look, fillP, over, cut]; rfl) ?_; simp only [pt])
        | (refine WO.opN (by intro; simp only [go_sem, Zz.look, storeAt, over, setBlk, cut]; rfl) ?_))
      refine WO.nil ?_
      simp only [Then]
      refine WC.ret ⟨_, rfl, ?_⟩
      simp [oneRes, gt]
  · obtain ⟨c, hc, g1⟩ := hear_no hq h1 h2 hmax hA
    have hc' : (c != 0) = true := by rcases hc with rfl | rfl <;> decide
    refine WO.call rfl rfl (WF.spec rfl (g1 _) ?_)
    simp only [pt]
    repeat (first
      | (refine WO.yes rfl ?_)
      | (refine WO.no rfl ?_; simp only [pt])
      | (refine WO.op (by intro; simp only [go_sem, Zz.look, fillP, over, cut]; rfl) ?_; simp only [pt])
      | (refine WO.opN (by intro; simp only [go_sem, Zz.look, storeAt, over, setBlk, cut]; rfl) ?_))
    refine WO.nil ?_
    simp only [Then]
    refine WC.seq (WC.region ?_)
    repeat (first
      | (refine WO.yes rfl ?_)
      | (refine WO.no rfl ?_; simp only [pt])
      | (refine WO.op (by intro; simp only [go_sem, Zz.look, fillP, over, cut]; rfl) ?_; simp only [pt])
      | (refine WO.opN (by intro; simp only [go_sem, Zz.look, storeAt, over, setBlk, cut]; rfl) ?_))
    obtain ⟨s2, v2, vs2, k2, hv2, g2⟩ := hear_any (ack := qa) (bd := qd) hq h1 h3 hmax
    refine WO.call rfl rfl (WF.spec rfl (g2 _) ?_)
    simp only [pt]
    repeat (first
      | (refine WO.yes rfl ?_)
      | (refine WO.no rfl ?_; simp only [pt])
      | (refine WO.op (by intro; simp only [go_sem, Zz.look, fillP, over, cut, hv2.cells]; rfl) ?_; simp only [pt])
      | (refine WO.opN (by intro; simp only [go_sem, Zz.look, storeAt, over, setBlk, cut, hv2.cells]; rfl) ?_))
    refine WO.nil ?_
    simp only [Then]
    refine WC.seq (WC.seq (WC.region ?_))
    repeat (first
      | (refine WO.yes rfl ?_)
      | (refine WO.no rfl ?_; simp only [pt])
      | (refine WO.op (by intro; simp only [go_sem, Zz.look, fillP, over, cut, bne_self_eq_false, hc']; rfl) ?_; simp only [pt])
      | (refine WO.opN (by intro; simp only [go_sem, Zz.look, storeAt, over, setBlk, cut, bne_self_eq_false, hc']; rfl) ?_))
    refine WO.nil ?_
    simp only [Then]
    refine WC.yes (by simp only [go_sem]) (WC.seq (WC.region ?_))
    repeat (first
      | (refine WO.yes rfl ?_)
      | (refine WO.no rfl ?_; simp only [pt])
      | (refine WO.op (by intro; simp only [go_sem, Zz.look, fillP, over, cut]; rfl) ?_; simp only [pt])
      | (refine WO.opN (by intro; simp only [go_sem, Zz.look, storeAt, over, setBlk, cut]; rfl) ?_))
    refine WO.nil ?_
    simp only [Then]
    refine WC.ret ⟨_, rfl, ?_⟩
    simp [oneRes, gt]
end Go.Proofs.Ytpddngcgajjacaa
