import Derived.Test.YtpddngcgajjacaaL29zia
import Derived.Test.YtpddngcgajjacaaIr29c
set_option linter.unusedSimpArgs false
set_option linter.unusedVariables false
namespace Go.Proofs.Ytpddngcgajjacaa
open Go.Zz

theorem sends_run {Γ : Env} {s : Int} {q : AV} {qs : List Int} (hs : Γ.spec 27 = none) (hf : Γ.fn 27 = some ir27) (hq : IntS q qs) (h1 : I64 s) (hmax : qs.length < 9223372036854775808) :
    WF Γ (.func 27 [] []) [.agg [.int .i64 s, q]] ⟨[], []⟩ fun y m' => y = .bool (decide (0 ≤ s ∧ s ≤ 1000 ∧ (qs.length : Int) ≤ 1000 - s)) := by
  refine WF.fn hs hf (by show 1 ≤ 20; decide) ?_
  unfold ir27
  simp only [padTo, List.replicate, List.nil_append, List.append_nil, List.cons_append]
  refine WC.seq (WC.region ?_)
  refine WO.op (by intro; simp only [go_sem]; rfl) ?_
  simp only [pt]
  refine WO.op (by intro; simp only [go_sem]; rfl) ?_
  simp only [pt]
  refine WO.nil ?_
  simp only [Then]
  refine WC.seq (WC.region ?_)
  by_cases c1 : 0 ≤ s
  · iterate 4
      refine WO.op (by intro; simp only [go_sem, c1, decide_true]; rfl) ?_
      simp only [pt]
    by_cases c2 : s ≤ 1000
    · iterate 3
        refine WO.yes (by simp only [gt]) ?_
        refine WO.op (by intro; simp only [go_sem, c2, decide_true]; rfl) ?_
        simp only [pt]
      iterate 2
        refine WO.op (by intro; simp only [go_sem]; rfl) ?_
        simp only [pt]
      have hw := wrap_id (n := 1000 - s) (by omega) (by omega)
      iterate 2
        refine WO.yes (by simp only [gt]) ?_
        refine WO.op (by intro; simp only [go_sem]; rfl) ?_
        simp only [pt]
      refine WO.yes (by simp only [gt]) ?_
      refine WO.op (by intro; rw [ev_lenS (n := qs.length) (by simp only [go_sem]; exact hq.len)]) ?_
      simp only [pt]
      iterate 4
        refine WO.yes (by simp only [gt]) ?_
        refine WO.op (by intro; simp only [go_sem, hw]; rfl) ?_
        simp only [pt]
      iterate 2
        refine WO.op (by intro; simp only [go_sem]; rfl) ?_
        simp only [pt]
      refine WO.nil ?_
      simp only [Then]
      refine WC.ret ?_
      refine ⟨_, rfl, ?_⟩
      simp [oneRes, gt, c1, c2]
    · iterate 3
        refine WO.yes (by simp only [gt]) ?_
        refine WO.op (by intro; simp only [go_sem, c2, decide_false]; rfl) ?_
        simp only [pt]
      iterate 2
        refine WO.op (by intro; simp only [go_sem]; rfl) ?_
        simp only [pt]
      iterate 7
        refine WO.no (by simp only [gt, Bool.not_true]) ?_
        simp only [pt]
      iterate 2
        refine WO.op (by intro; simp only [go_sem]; rfl) ?_
        simp only [pt]
      refine WO.nil ?_
      simp only [Then]
      refine WC.ret ?_
      refine ⟨_, rfl, ?_⟩
      simp [oneRes, gt, c1, c2]
  · iterate 4
      refine WO.op (by intro; simp only [go_sem, c1, decide_false]; rfl) ?_
      simp only [pt]
    iterate 3
      refine WO.no (by simp only [gt, Bool.not_true]) ?_
      simp only [pt]
    iterate 2
      refine WO.op (by intro; simp only [go_sem]; rfl) ?_
      simp only [pt]
    iterate 7
      refine WO.no (by simp only [gt, Bool.not_true]) ?_
      simp only [pt]
    iterate 2
      refine WO.op (by intro; simp only [go_sem]; rfl) ?_
      simp only [pt]
    refine WO.nil ?_
    simp only [Then]
    refine WC.ret ?_
    refine ⟨_, rfl, ?_⟩
    simp [oneRes, gt, c1]

/-- slices.Clone. -/

def Spec27 (Γ : Env) : Prop := ∃ S, Γ.spec 27 = some S ∧ ∀ s q qs m, IntS q qs → I64 s → qs.length < 9223372036854775808 → S [.agg [.int .i64 s, q]] m = some (.bool (decide (0 ≤ s ∧ s ≤ 1000 ∧ (qs.length : Int) ≤ 1000 - s)), m)

noncomputable def Gr : Env := withSpec G0 [(27, borrowE G0 27)]
theorem Gr_ok : EnvOk Try.prog Gr := withSpec_ok fun p hp => by
  simp only [List.mem_cons, List.not_mem_nil, or_false] at hp
  subst hp
  exact borrowE_ok G0_ok (callable Try.func27 (by kernel_rfl))
theorem spec27 : Spec27 Gr := by
  refine ⟨_, rfl, fun s q qs m hq h1 h2 => ?_⟩
  refine borrowE_of ?_ ((sends_run (Γ := G0) rfl (fn_of Try.func27 cir27) hq h1 h2).mono fun y m' hy => by rw [hy]; rfl)
  have e : Zz.pureC (.int .i64 s) = true := rfl
  simp [Zz.pureA, hq.pureC, e]

theorem rsend_bad {Γ : Env} (h27 : Spec27 Γ) {s b : Int} {q : AV} {qs : List Int} (hs : Γ.spec 12 = none) (hf : Γ.fn 12 = some ir12) (hq : IntS q qs) (h1 : I64 s) (hmax : qs.length < 9223372036854775808) (hb : ¬ (0 ≤ s ∧ s ≤ 1000 ∧ (qs.length : Int) ≤ 1000 - s)) :
    WF Γ (.func 12 [] []) [.agg [.int .i64 s, q], .int .i64 b] ⟨[], []⟩ fun y m' => resV m'.heap y = some (.tuple [.agg [.int .i64 0, .snil], .int .i64 1]) := by
  obtain ⟨S, hS, h27⟩ := h27
  have h27' : ∀ m, S [.agg [.int .i64 s, q]] m = some (.bool false, m) := fun m => by rw [h27 s q qs m hq h1 hmax, decide_eq_false hb]
  refine WF.fn hs hf (by show 2 ≤ 30; decide) ?_
  unfold ir12
  simp only [padTo, List.replicate, List.nil_append, List.append_nil, List.cons_append]
  refine WC.seq (WC.region ?_)
  repeat (first
    | (refine WO.yes rfl ?_)
    | (refine WO.no rfl ?_; simp only [pt])
    | (refine WO.op (by intro; simp only [go_sem, Zz.look, fillP, over, cut]; rfl) ?_; simp only [pt])
    | (refine WO.opN (by intro; simp only [go_sem, Zz.look, storeAt, over, setBlk, cut]; rfl) ?_))
  refine WO.nil ?_
  simp only [Then]
  refine WC.seq (WC.region ?_)
  refine WO.op (by intro; simp only [go_sem, Zz.look, cut, List.drop_zero]; rfl) ?_
  simp only [pt]
  refine WO.call rfl rfl (WF.spec hS (h27' _) ?_)
  simp only [pt]
  repeat (first
    | (refine WO.yes rfl ?_)
    | (refine WO.no rfl ?_; simp only [pt])
    | (refine WO.op (by intro; simp only [go_sem, Zz.look, fillP, over, cut]; rfl) ?_; simp only [pt])
    | (refine WO.opN (by intro; simp only [go_sem, Zz.look, storeAt, over, setBlk, cut]; rfl) ?_))
  refine WO.nil ?_
  simp only [Then]
  refine WC.seq (WC.seq (WC.region ?_))
  repeat (first
    | (refine WO.yes rfl ?_)
    | (refine WO.no rfl ?_; simp only [pt])
    | (refine WO.op (by intro; simp only [go_sem, Zz.look, fillP, over, cut]; rfl) ?_; simp only [pt])
    | (refine WO.opN (by intro; simp only [go_sem, Zz.look, storeAt, over, setBlk, cut]; rfl) ?_))
  refine WO.nil ?_
  simp only [Then]
  refine WC.yes rfl (WC.seq (WC.region ?_))
  repeat (first
    | (refine WO.yes rfl ?_)
    | (refine WO.no rfl ?_; simp only [pt])
    | (refine WO.op (by intro; simp only [go_sem, Zz.look, fillP, over, cut]; rfl) ?_; simp only [pt])
    | (refine WO.opN (by intro; simp only [go_sem, Zz.look, storeAt, over, setBlk, cut]; rfl) ?_))
  refine WO.nil ?_
  simp only [Then]
  refine WC.ret ?_
  exact ⟨_, rfl, rfl⟩

theorem rsend_full {Γ : Env} (h27 : Spec27 Γ) {s b : Int} {q : AV} {qs : List Int} (hs : Γ.spec 12 = none) (hf : Γ.fn 12 = some ir12) (hq : IntS q qs) (h1 : I64 s) (hmax : qs.length < 9223372036854775808) (hb : 0 ≤ s ∧ s ≤ 1000 ∧ (qs.length : Int) ≤ 1000 - s) (hfull : s + qs.length = 1000) :
    WF Γ (.func 12 [] []) [.agg [.int .i64 s, q], .int .i64 b] ⟨[], []⟩ fun y m' => resV m'.heap y = some (.tuple [.agg [.int .i64 0, .snil], .int .i64 2]) := by
  obtain ⟨S, hS, h27⟩ := h27
  have h27' : ∀ m, S [.agg [.int .i64 s, q]] m = some (.bool true, m) := fun m => by rw [h27 s q qs m hq h1 hmax, decide_eq_true hb]
  have hw : IntKind.wrap .i64 (s + qs.length) = 1000 := by rw [wrap_id (by omega) (by omega)]; exact hfull
  refine WF.fn hs hf (by show 2 ≤ 30; decide) ?_
  unfold ir12
  simp only [padTo, List.replicate, List.nil_append, List.append_nil, List.cons_append]
  refine WC.seq (WC.region ?_)
  repeat (first
    | (refine WO.yes rfl ?_)
    | (refine WO.no rfl ?_; simp only [pt])
    | (refine WO.op (by intro; simp only [go_sem, Zz.look, fillP, over, cut]; rfl) ?_; simp only [pt])
    | (refine WO.opN (by intro; simp only [go_sem, Zz.look, storeAt, over, setBlk, cut]; rfl) ?_))
  refine WO.nil ?_
  simp only [Then]
  refine WC.seq (WC.region ?_)
  refine WO.op (by intro; simp only [go_sem, Zz.look, cut, List.drop_zero]; rfl) ?_
  simp only [pt]
  refine WO.call rfl rfl (WF.spec hS (h27' _) ?_)
  simp only [pt]
  repeat (first
    | (refine WO.yes rfl ?_)
    | (refine WO.no rfl ?_; simp only [pt])
    | (refine WO.op (by intro; simp only [go_sem, Zz.look, fillP, over, cut]; rfl) ?_; simp only [pt])
    | (refine WO.opN (by intro; simp only [go_sem, Zz.look, storeAt, over, setBlk, cut]; rfl) ?_))
  refine WO.nil ?_
  simp only [Then]
  refine WC.seq (WC.seq (WC.region ?_))
  repeat (first
    | (refine WO.yes rfl ?_)
    | (refine WO.no rfl ?_; simp only [pt])
    | (refine WO.op (by intro; simp only [go_sem, Zz.look, fillP, over, cut]; rfl) ?_; simp only [pt])
    | (refine WO.opN (by intro; simp only [go_sem, Zz.look, storeAt, over, setBlk, cut]; rfl) ?_))
  refine WO.nil ?_
  simp only [Then]
  refine WC.no rfl (WC.skip ?_)
  simp only [Then]
  refine WC.seq (WC.seq (WC.region ?_))
  repeat (first
    | (refine WO.yes rfl ?_)
    | (refine WO.no rfl ?_; simp only [pt])
    | (refine WO.op (by intro; simp only [go_sem, Zz.look, fillP, over, cut]; rfl) ?_; simp only [pt])
    | (refine WO.opN (by intro; simp only [go_sem, Zz.look, storeAt, over, setBlk, cut]; rfl) ?_))
  refine WO.op (by intro; exact ev_lenS (n := qs.length) (by simp only [go_sem]; exact hq.len)) ?_
  simp only [pt]
  repeat (first
    | (refine WO.yes rfl ?_)
    | (refine WO.no rfl ?_; simp only [pt])
    | (refine WO.op (by intro; simp only [go_sem, Zz.look, fillP, over, cut, hw, beq_self_eq_true]; rfl) ?_; simp only [pt])
    | (refine WO.opN (by intro; simp only [go_sem, Zz.look, storeAt, over, setBlk, cut, hw, beq_self_eq_true]; rfl) ?_))
  refine WO.nil ?_
  simp only [Then]
  refine WC.yes rfl (WC.seq (WC.region ?_))
  repeat (first
    | (refine WO.yes rfl ?_)
    | (refine WO.no rfl ?_; simp only [pt])
    | (refine WO.op (by intro; simp only [go_sem, Zz.look, fillP, over, cut]; rfl) ?_; simp only [pt])
    | (refine WO.opN (by intro; simp only [go_sem, Zz.look, storeAt, over, setBlk, cut]; rfl) ?_))
  refine WO.nil ?_
  simp only [Then]
  refine WC.ret ?_
  exact ⟨_, rfl, rfl⟩

theorem rsend_good {Γ : Env} (h27 : Spec27 Γ) {s b : Int} {q : AV} {qs : List Int} (hs : Γ.spec 12 = none) (hf : Γ.fn 12 = some ir12) (hq : IntS q qs) (h1 : I64 s) (hmax : qs.length < 9223372036854775808) (hb : 0 ≤ s ∧ s ≤ 1000 ∧ (qs.length : Int) ≤ 1000 - s) (hfull : ¬ s + qs.length = 1000) :
    ∃ v, IntS v (qs ++ [b]) ∧ WF Γ (.func 12 [] []) [.agg [.int .i64 s, q], .int .i64 b] ⟨[], []⟩ fun y m' => resV m'.heap y = some (.tuple [.agg [.int .i64 s, v], .int .i64 0]) := by
  obtain ⟨S, hS, h27⟩ := h27
  have h27' : ∀ m, S [.agg [.int .i64 s, q]] m = some (.bool true, m) := fun m => by rw [h27 s q qs m hq h1 hmax, decide_eq_true hb]
  have hw : IntKind.wrap .i64 (s + qs.length) = s + qs.length := wrap_id (by omega) (by omega)
  have hne : (s + (qs.length : Int) == 1000) = false := by simpa using hfull
  refine ⟨.sval false (qs.length + 1) (qs.map (.int .i64) ++ [.int .i64 b]), .inr ⟨false, by simp⟩, ?_⟩
  refine WF.fn hs hf (by show 2 ≤ 30; decide) ?_
  unfold ir12
  simp only [padTo, List.replicate, List.nil_append, List.append_nil, List.cons_append]
  refine WC.seq (WC.region ?_)
  repeat (first
    | (refine WO.yes rfl ?_)
    | (refine WO.no rfl ?_; simp only [pt])
    | (refine WO.op (by intro; simp only [go_sem, Zz.look, fillP, over, cut]; rfl) ?_; simp only [pt])
    | (refine WO.opN (by intro; simp only [go_sem, Zz.look, storeAt, over, setBlk, cut]; rfl) ?_))
  refine WO.nil ?_
  simp only [Then]
  refine WC.seq (WC.region ?_)
  refine WO.op (by intro; simp only [go_sem, Zz.look, cut, List.drop_zero]; rfl) ?_
  simp only [pt]
  refine WO.call rfl rfl (WF.spec hS (h27' _) ?_)
  simp only [pt]
  repeat (first
    | (refine WO.yes rfl ?_)
    | (refine WO.no rfl ?_; simp only [pt])
    | (refine WO.op (by intro; simp only [go_sem, Zz.look, fillP, over, cut]; rfl) ?_; simp only [pt])
    | (refine WO.opN (by intro; simp only [go_sem, Zz.look, storeAt, over, setBlk, cut]; rfl) ?_))
  refine WO.nil ?_
  simp only [Then]
  refine WC.seq (WC.seq (WC.region ?_))
  repeat (first
    | (refine WO.yes rfl ?_)
    | (refine WO.no rfl ?_; simp only [pt])
    | (refine WO.op (by intro; simp only [go_sem, Zz.look, fillP, over, cut]; rfl) ?_; simp only [pt])
    | (refine WO.opN (by intro; simp only [go_sem, Zz.look, storeAt, over, setBlk, cut]; rfl) ?_))
  refine WO.nil ?_
  simp only [Then]
  refine WC.no rfl (WC.skip ?_)
  simp only [Then]
  refine WC.seq (WC.seq (WC.region ?_))
  repeat (first
    | (refine WO.yes rfl ?_)
    | (refine WO.no rfl ?_; simp only [pt])
    | (refine WO.op (by intro; simp only [go_sem, Zz.look, fillP, over, cut]; rfl) ?_; simp only [pt])
    | (refine WO.opN (by intro; simp only [go_sem, Zz.look, storeAt, over, setBlk, cut]; rfl) ?_))
  refine WO.op (by intro; exact ev_lenS (n := qs.length) (by simp only [go_sem]; exact hq.len)) ?_
  simp only [pt]
  repeat (first
    | (refine WO.yes rfl ?_)
    | (refine WO.no rfl ?_; simp only [pt])
    | (refine WO.op (by intro; simp only [go_sem, Zz.look, fillP, over, cut, hw, hne]; rfl) ?_; simp only [pt])
    | (refine WO.opN (by intro; simp only [go_sem, Zz.look, storeAt, over, setBlk, cut, hw, hne]; rfl) ?_))
  refine WO.nil ?_
  simp only [Then]
  refine WC.no (by simp only [go_sem]) (WC.skip ?_)
  simp only [Then]
  refine WC.seq (WC.draw ?_)
  by_cases h0 : qs = []
  · subst h0
    have happ : appendAV 1 8 ⟨[none, some ⟨0, [.int .i64 0, .snil]⟩, some ⟨0, []⟩, none], []⟩ (.sref 2 0 0 1 0 (some 0)) q = some (.sref 2 0 0 1 0 (some 0), ⟨[none, some ⟨0, [.int .i64 0, .snil]⟩, some ⟨0, []⟩, none], []⟩) := by
      rcases hq with ⟨rfl, _⟩ | ⟨f, rfl⟩ <;> rfl
    refine WD.free rfl (by intro; simp only [go_sem, fillP, over, cut]; rfl) ?_
    simp only [pt, St.put, List.nil_append, List.cons_append]
    refine WD.bigG (V := [some ⟨0, [.int .i64 s, q]⟩, none]) (H2 := [some ⟨0, [.int .i64 s, q]⟩, some ⟨0, [.int .i64 0, .snil]⟩]) rfl rfl (by intro; simp only [go_sem, Zz.look, fillP, storeAt, setBlk, over, cut]; rfl) rfl rfl rfl ?_
    simp only [pt, St.put, List.nil_append, List.cons_append]
    refine WD.bigG (V := [none, none]) (H2 := [some ⟨0, [.int .i64 s, q]⟩, some ⟨0, [.int .i64 0, .snil]⟩, some ⟨0, []⟩]) rfl rfl (by intro; simp only [go_sem, Zz.look, fillP, storeAt, setBlk, over, cut]; rfl) rfl rfl rfl ?_
    simp only [pt, St.put, List.nil_append, List.cons_append]
    refine WD.free rfl (by intro; simp only [go_sem, fillP, over, cut]; rfl) ?_
    simp only [pt, St.put, List.nil_append, List.cons_append]
    refine WD.bigG (V := [some ⟨0, [.int .i64 s, q]⟩, none, none]) (H2 := [some ⟨0, [.int .i64 s, q]⟩, some ⟨0, [.int .i64 0, .snil]⟩, some ⟨0, []⟩]) rfl rfl (by intro; simp only [go_sem, Zz.look, fillP, storeAt, setBlk, over, cut]; rfl) rfl rfl rfl ?_
    simp only [pt, St.put, List.nil_append, List.cons_append]
    refine WD.free rfl (by intro; simp only [go_sem, fillP, over, cut]; rfl) ?_
    simp only [pt, St.put, List.nil_append, List.cons_append]
    refine WD.bigG (V := [none, none, none]) (H2 := [some ⟨0, [.int .i64 s, q]⟩, some ⟨0, [.int .i64 0, .snil]⟩, some ⟨0, []⟩, some ⟨0, [.int .i64 b]⟩]) rfl rfl (by intro; simp only [go_sem, Zz.look, fillP, storeAt, setBlk, over, cut]; rfl) rfl rfl rfl ?_
    simp only [pt, St.put, List.nil_append, List.cons_append]
    refine WD.bigG (V := [none, some ⟨0, [.int .i64 0, .snil]⟩, some ⟨0, []⟩, none]) (H2 := [some ⟨0, [.int .i64 s, q]⟩, some ⟨0, [.int .i64 0, .snil]⟩, some ⟨0, []⟩, some ⟨0, [.int .i64 b]⟩]) rfl rfl (by intro; rw [ev_append]; exact happ) rfl rfl rfl ?_
    simp only [pt, St.put, List.nil_append, List.cons_append]
    refine WD.bigG (V := [none, some ⟨0, [.int .i64 0, .snil]⟩, some ⟨0, []⟩, some ⟨0, [.int .i64 b]⟩]) (H2 := [some ⟨0, [.int .i64 s, q]⟩, some ⟨0, [.int .i64 0, .snil]⟩, some ⟨0, []⟩, some ⟨0, [.int .i64 b]⟩, some ⟨0, [.int .i64 b]⟩]) rfl rfl (by intro; rw [ev_append]; exact rfl) rfl rfl rfl ?_
    simp only [pt, St.put, List.nil_append, List.cons_append]
    refine WD.free rfl (by intro; simp only [go_sem, fillP, over, cut]; rfl) ?_
    simp only [pt, St.put, List.nil_append, List.cons_append]
    refine WD.bigG (V := [none, some ⟨0, [.int .i64 0, .snil]⟩, none, none, none]) (H2 := [some ⟨0, [.int .i64 s, q]⟩, some ⟨0, [.int .i64 s, .sref 4 0 0 1 1 none]⟩, some ⟨0, []⟩, some ⟨0, [.int .i64 b]⟩, some ⟨0, [.int .i64 b]⟩]) rfl rfl (by intro; simp only [go_sem, Zz.look, fillP, storeAt, setBlk, over, cut]; rfl) rfl rfl rfl ?_
    simp only [pt, St.put, List.nil_append, List.cons_append]
    refine WD.free rfl (by intro; simp only [go_sem, fillP, over, cut]; rfl) ?_
    simp only [pt, St.put, List.nil_append, List.cons_append]
    refine WD.nil ?_
    simp only [Then]
    refine WC.ret ⟨_, rfl, ?_⟩
    simp [oneRes, gt, resV, resA, resC, resT, resL, Zz.look, cut, flatAV, St.mem, List.take_of_length_le]

  · have hpos : 0 < qs.length := List.length_pos_iff.2 h0
    have fl := flat_ints qs
    have happ : appendAV 1 8 ⟨[none, some ⟨0, [.int .i64 0, .snil]⟩, some ⟨0, []⟩, none], []⟩ (.sref 2 0 0 1 0 (some 0)) q = some (.sref 4 0 0 1 qs.length none, ⟨[none, some ⟨0, [.int .i64 0, .snil]⟩, some ⟨0, []⟩, none, some ⟨0, qs.map (.int .i64)⟩], []⟩) := by
      rcases hq with ⟨rfl, h⟩ | ⟨f, rfl⟩
      · exact absurd h h0
      · simp only [appendAV, scells, slen, Zz.look, cut, List.getElem?_cons_succ, List.getElem?_cons_zero, Option.bind_eq_bind, Option.bind_some, if_true, List.length_map, Nat.mul_one, Nat.zero_mul, Nat.zero_add, List.length_cons, List.length_nil, Nat.le_refl, List.drop_zero, List.take_zero]
        rw [if_neg (by omega), if_pos (by omega)]
        simp [newBlk]
    have happ2 : appendAV 1 8 ⟨[none, some ⟨0, [.int .i64 0, .snil]⟩, some ⟨0, []⟩, some ⟨0, [.int .i64 b]⟩, some ⟨0, qs.map (.int .i64)⟩], []⟩ (.sref 4 0 0 1 qs.length none) (.sref 3 0 0 1 1 (some 1)) = some (.sref 4 1 0 1 (qs.length + 1) none, ⟨[none, some ⟨0, [.int .i64 0, .snil]⟩, some ⟨0, []⟩, some ⟨0, [.int .i64 b]⟩, some ⟨1, qs.map (.int .i64) ++ [.int .i64 b]⟩], []⟩) := by
      simp only [appendAV, scells, slen, Zz.look, cut, List.getElem?_cons_succ, List.getElem?_cons_zero, Option.bind_eq_bind, Option.bind_some, if_true, List.length_map, Nat.mul_one, Nat.zero_add, List.length_cons, List.length_nil, Nat.le_refl, List.drop_zero]
      rw [if_neg (by omega), if_pos (by omega)]
      simp [setBlk, List.take_of_length_le]
    refine WD.free rfl (by intro; simp only [go_sem, fillP, over, cut]; rfl) ?_
    simp only [pt, St.put, List.nil_append, List.cons_append]
    refine WD.bigG (V := [some ⟨0, [.int .i64 s, q]⟩, none]) (H2 := [some ⟨0, [.int .i64 s, q]⟩, some ⟨0, [.int .i64 0, .snil]⟩]) rfl rfl (by intro; simp only [go_sem, Zz.look, fillP, storeAt, setBlk, over, cut]; rfl) rfl rfl rfl ?_
    simp only [pt, St.put, List.nil_append, List.cons_append]
    refine WD.bigG (V := [none, none]) (H2 := [some ⟨0, [.int .i64 s, q]⟩, some ⟨0, [.int .i64 0, .snil]⟩, some ⟨0, []⟩]) rfl rfl (by intro; simp only [go_sem, Zz.look, fillP, storeAt, setBlk, over, cut]; rfl) rfl rfl rfl ?_
    simp only [pt, St.put, List.nil_append, List.cons_append]
    refine WD.free rfl (by intro; simp only [go_sem, fillP, over, cut]; rfl) ?_
    simp only [pt, St.put, List.nil_append, List.cons_append]
    refine WD.bigG (V := [some ⟨0, [.int .i64 s, q]⟩, none, none]) (H2 := [some ⟨0, [.int .i64 s, q]⟩, some ⟨0, [.int .i64 0, .snil]⟩, some ⟨0, []⟩]) rfl rfl (by intro; simp only [go_sem, Zz.look, fillP, storeAt, setBlk, over, cut]; rfl) rfl rfl rfl ?_
    simp only [pt, St.put, List.nil_append, List.cons_append]
    refine WD.free rfl (by intro; simp only [go_sem, fillP, over, cut]; rfl) ?_
    simp only [pt, St.put, List.nil_append, List.cons_append]
    refine WD.bigG (V := [none, none, none]) (H2 := [some ⟨0, [.int .i64 s, q]⟩, some ⟨0, [.int .i64 0, .snil]⟩, some ⟨0, []⟩, some ⟨0, [.int .i64 b]⟩]) rfl rfl (by intro; simp only [go_sem, Zz.look, fillP, storeAt, setBlk, over, cut]; rfl) rfl rfl rfl ?_
    simp only [pt, St.put, List.nil_append, List.cons_append]
    refine WD.bigG (V := [none, some ⟨0, [.int .i64 0, .snil]⟩, some ⟨0, []⟩, none]) (H2 := [some ⟨0, [.int .i64 s, q]⟩, some ⟨0, [.int .i64 0, .snil]⟩, some ⟨0, []⟩, some ⟨0, [.int .i64 b]⟩, some ⟨0, qs.map (.int .i64)⟩]) rfl rfl (by intro; rw [ev_append]; exact happ) rfl rfl rfl ?_
    simp only [pt, St.put, List.nil_append, List.cons_append]
    refine WD.bigG (V := [none, some ⟨0, [.int .i64 0, .snil]⟩, some ⟨0, []⟩, some ⟨0, [.int .i64 b]⟩, some ⟨0, qs.map (.int .i64)⟩]) (H2 := [some ⟨0, [.int .i64 s, q]⟩, some ⟨0, [.int .i64 0, .snil]⟩, some ⟨0, []⟩, some ⟨0, [.int .i64 b]⟩, some ⟨1, qs.map (.int .i64) ++ [.int .i64 b]⟩]) rfl rfl (by intro; rw [ev_append]; exact happ2) rfl rfl rfl ?_
    simp only [pt, St.put, List.nil_append, List.cons_append]
    refine WD.free rfl (by intro; simp only [go_sem, fillP, over, cut]; rfl) ?_
    simp only [pt, St.put, List.nil_append, List.cons_append]
    refine WD.bigG (V := [none, some ⟨0, [.int .i64 0, .snil]⟩, none, none, none]) (H2 := [some ⟨0, [.int .i64 s, q]⟩, some ⟨0, [.int .i64 s, .sref 4 1 0 1 (qs.length + 1) none]⟩, some ⟨0, []⟩, some ⟨0, [.int .i64 b]⟩, some ⟨1, qs.map (.int .i64) ++ [.int .i64 b]⟩]) rfl rfl (by intro; simp only [go_sem, Zz.look, fillP, storeAt, setBlk, over, cut]; rfl) rfl rfl rfl ?_
    simp only [pt, St.put, List.nil_append, List.cons_append]
    refine WD.free rfl (by intro; simp only [go_sem, fillP, over, cut]; rfl) ?_
    simp only [pt, St.put, List.nil_append, List.cons_append]
    refine WD.nil ?_
    simp only [Then]
    refine WC.ret ⟨_, rfl, ?_⟩
    simp [oneRes, gt, resV, resA, resC, resT, resL, Zz.look, cut, flatAV, St.mem, List.take_of_length_le]

end Go.Proofs.Ytpddngcgajjacaa

set_option linter.unusedSimpArgs false
set_option linter.unusedVariables false
namespace Go.Proofs.Ytpddngcgajjacaa
open Go.Zz


theorem rhear_bad {Γ : Env} (h27 : Spec27 Γ) {s ps bd : Int} {ack : Bool} {q : AV} {qs : List Int} (hs : Γ.spec 18 = none) (hf : Γ.fn 18 = some ir18) (hq : IntS q qs) (h1 : I64 s) (h2 : I64 ps) (hmax : qs.length < 9223372036854775808)
    (hbad : ¬ ((0 ≤ s ∧ s ≤ 1000 ∧ (qs.length : Int) ≤ 1000 - s) ∧ ack = true ∧ bd = 0 ∧ 0 ≤ ps ∧ ps ≤ 1000)) :
    WF Γ (.func 18 [] []) [.agg [.int .i64 s, q], .agg [.bool ack, .int .i64 ps, .int .i64 bd]] ⟨[], []⟩ fun y m' => resV m'.heap y = some (.tuple [.agg [.int .i64 0, .snil], .int .i64 1]) := by
  obtain ⟨S, hS, h27⟩ := h27
  by_cases cV : 0 ≤ s ∧ s ≤ 1000 ∧ (qs.length : Int) ≤ 1000 - s
  · have h27' : ∀ m, S [.agg [.int .i64 s, q]] m = some (.bool true, m) := fun m => by rw [h27 s q qs m hq h1 hmax, decide_eq_true cV]
    cases ack with
    | false =>
      refine WF.fn hs hf (by show 2 ≤ 60; decide) ?_
      unfold ir18
      simp only [padTo, List.replicate, List.nil_append, List.append_nil, List.cons_append]
      refine WC.seq (WC.region ?_)
      repeat (first
        | (refine WO.yes rfl ?_)
        | (refine WO.no rfl ?_; simp only [pt])
        | (refine WO.op (by intro; simp only [go_sem, Zz.look, fillP, over, cut]; rfl) ?_; simp only [pt])
        | (refine WO.opN (by intro; simp only [go_sem, Zz.look, storeAt, over, setBlk, cut]; rfl) ?_))
      refine WO.nil ?_
      simp only [Then]
      refine WC.seq (WC.region ?_)
      refine WO.op (by intro; simp only [go_sem, Zz.look, cut, List.drop_zero]; rfl) ?_
      simp only [pt]
      refine WO.call rfl rfl (WF.spec hS (h27' _) ?_)
      simp only [pt]
      repeat (first
        | (refine WO.yes rfl ?_)
        | (refine WO.no rfl ?_; simp only [pt])
        | (refine WO.op (by intro; simp only [go_sem, Zz.look, fillP, over, cut]; rfl) ?_; simp only [pt])
        | (refine WO.opN (by intro; simp only [go_sem, Zz.look, storeAt, over, setBlk, cut]; rfl) ?_))
      refine WO.nil ?_
      simp only [Then]
      refine WC.seq (WC.seq (WC.region ?_))
      repeat (first
        | (refine WO.yes rfl ?_)
        | (refine WO.no rfl ?_; simp only [pt])
        | (refine WO.op (by intro; simp only [go_sem, Zz.look, fillP, over, cut]; rfl) ?_; simp only [pt])
        | (refine WO.opN (by intro; simp only [go_sem, Zz.look, storeAt, over, setBlk, cut]; rfl) ?_))
      refine WO.nil ?_
      simp only [Then]
      refine WC.yes rfl (WC.seq (WC.region ?_))
      repeat (first
        | (refine WO.yes rfl ?_)
        | (refine WO.no rfl ?_; simp only [pt])
        | (refine WO.op (by intro; simp only [go_sem, Zz.look, fillP, over, cut]; rfl) ?_; simp only [pt])
        | (refine WO.opN (by intro; simp only [go_sem, Zz.look, storeAt, over, setBlk, cut]; rfl) ?_))
      refine WO.nil ?_
      simp only [Then]
      refine WC.ret ?_
      exact ⟨_, rfl, rfl⟩
    | true =>
      by_cases cb : bd = 0
      · subst cb
        by_cases c1 : ps < 0
        · refine WF.fn hs hf (by show 2 ≤ 60; decide) ?_
          unfold ir18
          simp only [padTo, List.replicate, List.nil_append, List.append_nil, List.cons_append]
          refine WC.seq (WC.region ?_)
          repeat (first
            | (refine WO.yes rfl ?_)
            | (refine WO.no rfl ?_; simp only [pt])
            | (refine WO.op (by intro; simp only [go_sem, Zz.look, fillP, over, cut]; rfl) ?_; simp only [pt])
            | (refine WO.opN (by intro; simp only [go_sem, Zz.look, storeAt, over, setBlk, cut]; rfl) ?_))
          refine WO.nil ?_
          simp only [Then]
          refine WC.seq (WC.region ?_)
          refine WO.op (by intro; simp only [go_sem, Zz.look, cut, List.drop_zero]; rfl) ?_
          simp only [pt]
          refine WO.call rfl rfl (WF.spec hS (h27' _) ?_)
          simp only [pt]
          repeat (first
            | (refine WO.yes rfl ?_)
            | (refine WO.no rfl ?_; simp only [pt])
            | (refine WO.op (by intro; simp only [go_sem, Zz.look, fillP, over, cut]; rfl) ?_; simp only [pt])
            | (refine WO.opN (by intro; simp only [go_sem, Zz.look, storeAt, over, setBlk, cut]; rfl) ?_))
          refine WO.nil ?_
          simp only [Then]
          refine WC.seq (WC.seq (WC.region ?_))
          repeat (first
            | (refine WO.yes rfl ?_)
            | (refine WO.no rfl ?_; simp only [pt])
            | (refine WO.op (by intro; simp only [go_sem, Zz.look, fillP, over, cut, c1, decide_true, bne_self_eq_false]; rfl) ?_; simp only [pt])
            | (refine WO.opN (by intro; simp only [go_sem, Zz.look, storeAt, over, setBlk, cut, c1, decide_true, bne_self_eq_false]; rfl) ?_))
          refine WO.nil ?_
          simp only [Then]
          refine WC.yes rfl (WC.seq (WC.region ?_))
          repeat (first
            | (refine WO.yes rfl ?_)
            | (refine WO.no rfl ?_; simp only [pt])
            | (refine WO.op (by intro; simp only [go_sem, Zz.look, fillP, over, cut]; rfl) ?_; simp only [pt])
            | (refine WO.opN (by intro; simp only [go_sem, Zz.look, storeAt, over, setBlk, cut]; rfl) ?_))
          refine WO.nil ?_
          simp only [Then]
          refine WC.ret ?_
          exact ⟨_, rfl, rfl⟩
        · by_cases c2 : 1000 < ps
          · refine WF.fn hs hf (by show 2 ≤ 60; decide) ?_
            unfold ir18
            simp only [padTo, List.replicate, List.nil_append, List.append_nil, List.cons_append]
            refine WC.seq (WC.region ?_)
            repeat (first
              | (refine WO.yes rfl ?_)
              | (refine WO.no rfl ?_; simp only [pt])
              | (refine WO.op (by intro; simp only [go_sem, Zz.look, fillP, over, cut]; rfl) ?_; simp only [pt])
              | (refine WO.opN (by intro; simp only [go_sem, Zz.look, storeAt, over, setBlk, cut]; rfl) ?_))
            refine WO.nil ?_
            simp only [Then]
            refine WC.seq (WC.region ?_)
            refine WO.op (by intro; simp only [go_sem, Zz.look, cut, List.drop_zero]; rfl) ?_
            simp only [pt]
            refine WO.call rfl rfl (WF.spec hS (h27' _) ?_)
            simp only [pt]
            repeat (first
              | (refine WO.yes rfl ?_)
              | (refine WO.no rfl ?_; simp only [pt])
              | (refine WO.op (by intro; simp only [go_sem, Zz.look, fillP, over, cut]; rfl) ?_; simp only [pt])
              | (refine WO.opN (by intro; simp only [go_sem, Zz.look, storeAt, over, setBlk, cut]; rfl) ?_))
            refine WO.nil ?_
            simp only [Then]
            refine WC.seq (WC.seq (WC.region ?_))
            repeat (first
              | (refine WO.yes rfl ?_)
              | (refine WO.no rfl ?_; simp only [pt])
              | (refine WO.op (by intro; simp only [go_sem, Zz.look, fillP, over, cut, c1, c2, decide_true, decide_false, bne_self_eq_false]; rfl) ?_; simp only [pt])
              | (refine WO.opN (by intro; simp only [go_sem, Zz.look, storeAt, over, setBlk, cut, c1, c2, decide_true, decide_false, bne_self_eq_false]; rfl) ?_))
            refine WO.nil ?_
            simp only [Then]
            refine WC.yes rfl (WC.seq (WC.region ?_))
            repeat (first
              | (refine WO.yes rfl ?_)
              | (refine WO.no rfl ?_; simp only [pt])
              | (refine WO.op (by intro; simp only [go_sem, Zz.look, fillP, over, cut]; rfl) ?_; simp only [pt])
              | (refine WO.opN (by intro; simp only [go_sem, Zz.look, storeAt, over, setBlk, cut]; rfl) ?_))
            refine WO.nil ?_
            simp only [Then]
            refine WC.ret ?_
            exact ⟨_, rfl, rfl⟩
          · exact absurd ⟨cV, rfl, rfl, by omega, by omega⟩ hbad
      · have cb' : (bd != 0) = true := by simpa using cb
        refine WF.fn hs hf (by show 2 ≤ 60; decide) ?_
        unfold ir18
        simp only [padTo, List.replicate, List.nil_append, List.append_nil, List.cons_append]
        refine WC.seq (WC.region ?_)
        repeat (first
          | (refine WO.yes rfl ?_)
          | (refine WO.no rfl ?_; simp only [pt])
          | (refine WO.op (by intro; simp only [go_sem, Zz.look, fillP, over, cut]; rfl) ?_; simp only [pt])
          | (refine WO.opN (by intro; simp only [go_sem, Zz.look, storeAt, over, setBlk, cut]; rfl) ?_))
        refine WO.nil ?_
        simp only [Then]
        refine WC.seq (WC.region ?_)
        refine WO.op (by intro; simp only [go_sem, Zz.look, cut, List.drop_zero]; rfl) ?_
        simp only [pt]
        refine WO.call rfl rfl (WF.spec hS (h27' _) ?_)
        simp only [pt]
        repeat (first
          | (refine WO.yes rfl ?_)
          | (refine WO.no rfl ?_; simp only [pt])
          | (refine WO.op (by intro; simp only [go_sem, Zz.look, fillP, over, cut]; rfl) ?_; simp only [pt])
          | (refine WO.opN (by intro; simp only [go_sem, Zz.look, storeAt, over, setBlk, cut]; rfl) ?_))
        refine WO.nil ?_
        simp only [Then]
        refine WC.seq (WC.seq (WC.region ?_))
        repeat (first
          | (refine WO.yes rfl ?_)
          | (refine WO.no rfl ?_; simp only [pt])
          | (refine WO.op (by intro; simp only [go_sem, Zz.look, fillP, over, cut, cb']; rfl) ?_; simp only [pt])
          | (refine WO.opN (by intro; simp only [go_sem, Zz.look, storeAt, over, setBlk, cut, cb']; rfl) ?_))
        refine WO.nil ?_
        simp only [Then]
        refine WC.yes rfl (WC.seq (WC.region ?_))
        repeat (first
          | (refine WO.yes rfl ?_)
          | (refine WO.no rfl ?_; simp only [pt])
          | (refine WO.op (by intro; simp only [go_sem, Zz.look, fillP, over, cut]; rfl) ?_; simp only [pt])
          | (refine WO.opN (by intro; simp only [go_sem, Zz.look, storeAt, over, setBlk, cut]; rfl) ?_))
        refine WO.nil ?_
        simp only [Then]
        refine WC.ret ?_
        exact ⟨_, rfl, rfl⟩
  · have h27' : ∀ m, S [.agg [.int .i64 s, q]] m = some (.bool false, m) := fun m => by rw [h27 s q qs m hq h1 hmax, decide_eq_false cV]
    refine WF.fn hs hf (by show 2 ≤ 60; decide) ?_
    unfold ir18
    simp only [padTo, List.replicate, List.nil_append, List.append_nil, List.cons_append]
    refine WC.seq (WC.region ?_)
    repeat (first
      | (refine WO.yes rfl ?_)
      | (refine WO.no rfl ?_; simp only [pt])
      | (refine WO.op (by intro; simp only [go_sem, Zz.look, fillP, over, cut]; rfl) ?_; simp only [pt])
      | (refine WO.opN (by intro; simp only [go_sem, Zz.look, storeAt, over, setBlk, cut]; rfl) ?_))
    refine WO.nil ?_
    simp only [Then]
    refine WC.seq (WC.region ?_)
    refine WO.op (by intro; simp only [go_sem, Zz.look, cut, List.drop_zero]; rfl) ?_
    simp only [pt]
    refine WO.call rfl rfl (WF.spec hS (h27' _) ?_)
    simp only [pt]
    repeat (first
      | (refine WO.yes rfl ?_)
      | (refine WO.no rfl ?_; simp only [pt])
      | (refine WO.op (by intro; simp only [go_sem, Zz.look, fillP, over, cut]; rfl) ?_; simp only [pt])
      | (refine WO.opN (by intro; simp only [go_sem, Zz.look, storeAt, over, setBlk, cut]; rfl) ?_))
    refine WO.nil ?_
    simp only [Then]
    refine WC.seq (WC.seq (WC.region ?_))
    repeat (first
      | (refine WO.yes rfl ?_)
      | (refine WO.no rfl ?_; simp only [pt])
      | (refine WO.op (by intro; simp only [go_sem, Zz.look, fillP, over, cut]; rfl) ?_; simp only [pt])
      | (refine WO.opN (by intro; simp only [go_sem, Zz.look, storeAt, over, setBlk, cut]; rfl) ?_))
    refine WO.nil ?_
    simp only [Then]
    refine WC.yes rfl (WC.seq (WC.region ?_))
    repeat (first
      | (refine WO.yes rfl ?_)
      | (refine WO.no rfl ?_; simp only [pt])
      | (refine WO.op (by intro; simp only [go_sem, Zz.look, fillP, over, cut]; rfl) ?_; simp only [pt])
      | (refine WO.opN (by intro; simp only [go_sem, Zz.look, storeAt, over, setBlk, cut]; rfl) ?_))
    refine WO.nil ?_
    simp only [Then]
    refine WC.ret ?_
    exact ⟨_, rfl, rfl⟩

theorem rhear_state {Γ : Env} (h27 : Spec27 Γ) {s ps : Int} {q : AV} {qs : List Int} (hs : Γ.spec 18 = none) (hf : Γ.fn 18 = some ir18) (hq : IntS q qs) (h1 : I64 s) (h2 : I64 ps) (hmax : qs.length < 9223372036854775808) (cV : 0 ≤ s ∧ s ≤ 1000 ∧ (qs.length : Int) ≤ 1000 - s) (c1 : ¬ ps < 0) (c2 : ¬ 1000 < ps) (c3 : (qs.length : Int) < ps - s) :
    WF Γ (.func 18 [] []) [.agg [.int .i64 s, q], .agg [.bool true, .int .i64 ps, .int .i64 0]] ⟨[], []⟩ fun y m' => resV m'.heap y = some (.tuple [.agg [.int .i64 0, .snil], .int .i64 6]) := by
  obtain ⟨S, hS, h27⟩ := h27
  have h27' : ∀ m, S [.agg [.int .i64 s, q]] m = some (.bool true, m) := fun m => by rw [h27 s q qs m hq h1 hmax, decide_eq_true cV]
  have hwa : IntKind.wrap .i64 (s + qs.length) = s + qs.length := wrap_id (by omega) (by omega)
  have c3' : s + (qs.length : Int) < ps := by omega
  refine WF.fn hs hf (by show 2 ≤ 60; decide) ?_
  unfold ir18
  simp only [padTo, List.replicate, List.nil_append, List.append_nil, List.cons_append]
  refine WC.seq (WC.region ?_)
  repeat (first
    | (refine WO.yes rfl ?_)
    | (refine WO.no rfl ?_; simp only [pt])
    | (refine WO.op (by intro; simp only [go_sem, Zz.look, fillP, over, cut]; rfl) ?_; simp only [pt])
    | (refine WO.opN (by intro; simp only [go_sem, Zz.look, storeAt, over, setBlk, cut]; rfl) ?_))
  refine WO.nil ?_
  simp only [Then]
  refine WC.seq (WC.region ?_)
  refine WO.op (by intro; simp only [go_sem, Zz.look, cut, List.drop_zero]; rfl) ?_
  simp only [pt]
  refine WO.call rfl rfl (WF.spec hS (h27' _) ?_)
  simp only [pt]
  repeat (first
    | (refine WO.yes rfl ?_)
    | (refine WO.no rfl ?_; simp only [pt])
    | (refine WO.op (by intro; simp only [go_sem, Zz.look, fillP, over, cut]; rfl) ?_; simp only [pt])
    | (refine WO.opN (by intro; simp only [go_sem, Zz.look, storeAt, over, setBlk, cut]; rfl) ?_))
  refine WO.nil ?_
  simp only [Then]
  refine WC.seq (WC.seq (WC.region ?_))
  repeat (first
    | (refine WO.yes rfl ?_)
    | (refine WO.no rfl ?_; simp only [pt])
    | (refine WO.op (by intro; simp only [go_sem, Zz.look, fillP, over, cut, c1, c2, decide_false, decide_true, bne_self_eq_false]; rfl) ?_; simp only [pt])
    | (refine WO.opN (by intro; simp only [go_sem, Zz.look, storeAt, over, setBlk, cut, c1, c2, decide_false, decide_true, bne_self_eq_false]; rfl) ?_))
  refine WO.nil ?_
  simp only [Then]
  refine WC.no (by simp only [go_sem]) (WC.skip ?_)
  simp only [Then]
  refine WC.seq (WC.seq (WC.region ?_))
  repeat (first
    | (refine WO.yes rfl ?_)
    | (refine WO.no rfl ?_; simp only [pt])
    | (refine WO.op (by intro; simp only [go_sem, Zz.look, fillP, over, cut]; rfl) ?_; simp only [pt])
    | (refine WO.opN (by intro; simp only [go_sem, Zz.look, storeAt, over, setBlk, cut]; rfl) ?_))
  refine WO.op (by intro; exact ev_lenS (n := qs.length) (by simp only [go_sem]; exact hq.len)) ?_
  simp only [pt]
  repeat (first
    | (refine WO.yes rfl ?_)
    | (refine WO.no rfl ?_; simp only [pt])
    | (refine WO.op (by intro; simp only [go_sem, Zz.look, fillP, over, cut, hwa, c3', decide_true]; rfl) ?_; simp only [pt])
    | (refine WO.opN (by intro; simp only [go_sem, Zz.look, storeAt, over, setBlk, cut, hwa, c3', decide_true]; rfl) ?_))
  refine WO.nil ?_
  simp only [Then]
  refine WC.yes (by simp only [go_sem, c3', decide_true]) (WC.seq (WC.region ?_))
  repeat (first
    | (refine WO.yes rfl ?_)
    | (refine WO.no rfl ?_; simp only [pt])
    | (refine WO.op (by intro; simp only [go_sem, Zz.look, fillP, over, cut]; rfl) ?_; simp only [pt])
    | (refine WO.opN (by intro; simp only [go_sem, Zz.look, storeAt, over, setBlk, cut]; rfl) ?_))
  refine WO.nil ?_
  simp only [Then]
  refine WC.ret ?_
  exact ⟨_, rfl, rfl⟩

theorem rhear_good {Γ : Env} (h27 : Spec27 Γ) {s ps : Int} {q : AV} {qs : List Int} (hs : Γ.spec 18 = none) (hf : Γ.fn 18 = some ir18) (hq : IntS q qs) (h1 : I64 s) (h2 : I64 ps) (hmax : qs.length < 9223372036854775808) (cV : 0 ≤ s ∧ s ≤ 1000 ∧ (qs.length : Int) ≤ 1000 - s) (c1 : ¬ ps < 0) (c2 : ¬ 1000 < ps) (c3 : ¬ (qs.length : Int) < ps - s) :
    ∃ v, IntS v (qs.drop (ps - s).toNat) ∧ WF Γ (.func 18 [] []) [.agg [.int .i64 s, q], .agg [.bool true, .int .i64 ps, .int .i64 0]] ⟨[], []⟩ fun y m' => resV m'.heap y = some (.tuple [.agg [.int .i64 (s + (ps - s).toNat), v], .int .i64 0]) := by
  obtain ⟨S, hS, h27⟩ := h27
  have h27' : ∀ m, S [.agg [.int .i64 s, q]] m = some (.bool true, m) := fun m => by rw [h27 s q qs m hq h1 hmax, decide_eq_true cV]
  have hwa : IntKind.wrap .i64 (s + qs.length) = s + qs.length := wrap_id (by omega) (by omega)
  have c3' : ¬ s + (qs.length : Int) < ps := by omega
  have hws : IntKind.wrap .i64 (ps - s) = ps - s := wrap_id (by omega) (by omega)
  have hmm : minmaxAV true [.int .i64 0, .int .i64 (ps - s)] = some (.int .i64 (((ps - s).toNat : Nat) : Int)) := by
    simp only [minmaxAV, mmGo, if_true]
    split <;> congr 2 <;> omega
  have hadd : IntKind.wrap .i64 (s + (((ps - s).toNat : Nat) : Int)) = s + (((ps - s).toNat : Nat) : Int) := wrap_id (by omega) (by omega)
  obtain ⟨y, hy, hsl⟩ := hq.from (n := (ps - s).toNat) (by omega)
  have hyl : (qs.drop (ps - s).toNat).length ≤ 1000 := by rw [List.length_drop]; omega
  generalize qs.drop (ps - s).toNat = ds at hy hyl ⊢
  by_cases h0 : ds = []
  · subst h0
    refine ⟨.sval true 0 [], .inr ⟨_, rfl⟩, ?_⟩
    have happ : appendAV 1 8 ⟨[none, some ⟨0, [.bool true, .int .i64 ps, .int .i64 0]⟩, some ⟨0, [.int .i64 0, .snil]⟩, some ⟨0, []⟩], []⟩ (.sref 3 0 0 1 0 (some 0)) y = some (.sref 3 0 0 1 0 (some 0), ⟨[none, some ⟨0, [.bool true, .int .i64 ps, .int .i64 0]⟩, some ⟨0, [.int .i64 0, .snil]⟩, some ⟨0, []⟩], []⟩) := by
      rcases hy with ⟨rfl, _⟩ | ⟨f, rfl⟩ <;> rfl
    refine WF.fn hs hf (by show 2 ≤ 60; decide) ?_
    unfold ir18
    simp only [padTo, List.replicate, List.nil_append, List.append_nil, List.cons_append]
    refine WC.seq (WC.region ?_)
    repeat (first
      | (refine WO.yes rfl ?_)
      | (refine WO.no rfl ?_; simp only [pt])
      | (refine WO.op (by intro; simp only [go_sem, Zz.look, fillP, over, cut]; rfl) ?_; simp only [pt])
      | (refine WO.opN (by intro; simp only [go_sem, Zz.look, storeAt, over, setBlk, cut]; rfl) ?_))
    refine WO.nil ?_
    simp only [Then]
    refine WC.seq (WC.region ?_)
    refine WO.op (by intro; simp only [go_sem, Zz.look, cut, List.drop_zero]; rfl) ?_
    simp only [pt]
    refine WO.call rfl rfl (WF.spec hS (h27' _) ?_)
    simp only [pt]
    repeat (first
      | (refine WO.yes rfl ?_)
      | (refine WO.no rfl ?_; simp only [pt])
      | (refine WO.op (by intro; simp only [go_sem, Zz.look, fillP, over, cut]; rfl) ?_; simp only [pt])
      | (refine WO.opN (by intro; simp only [go_sem, Zz.look, storeAt, over, setBlk, cut]; rfl) ?_))
    refine WO.nil ?_
    simp only [Then]
    refine WC.seq (WC.seq (WC.region ?_))
    repeat (first
      | (refine WO.yes rfl ?_)
      | (refine WO.no rfl ?_; simp only [pt])
      | (refine WO.op (by intro; simp only [go_sem, Zz.look, fillP, over, cut, c1, c2, decide_false, decide_true, bne_self_eq_false]; rfl) ?_; simp only [pt])
      | (refine WO.opN (by intro; simp only [go_sem, Zz.look, storeAt, over, setBlk, cut, c1, c2, decide_false, decide_true, bne_self_eq_false]; rfl) ?_))
    refine WO.nil ?_
    simp only [Then]
    refine WC.no (by simp only [go_sem]) (WC.skip ?_)
    simp only [Then]
    refine WC.seq (WC.seq (WC.region ?_))
    repeat (first
      | (refine WO.yes rfl ?_)
      | (refine WO.no rfl ?_; simp only [pt])
      | (refine WO.op (by intro; simp only [go_sem, Zz.look, fillP, over, cut]; rfl) ?_; simp only [pt])
      | (refine WO.opN (by intro; simp only [go_sem, Zz.look, storeAt, over, setBlk, cut]; rfl) ?_))
    refine WO.op (by intro; exact ev_lenS (n := qs.length) (by simp only [go_sem]; exact hq.len)) ?_
    simp only [pt]
    repeat (first
      | (refine WO.yes rfl ?_)
      | (refine WO.no rfl ?_; simp only [pt])
      | (refine WO.op (by intro; simp only [go_sem, Zz.look, fillP, over, cut, hwa, c3', decide_false]; rfl) ?_; simp only [pt])
      | (refine WO.opN (by intro; simp only [go_sem, Zz.look, storeAt, over, setBlk, cut, hwa, c3', decide_false]; rfl) ?_))
    refine WO.nil ?_
    simp only [Then]
    refine WC.no (by simp only [go_sem, c3', decide_false]) (WC.skip ?_)
    simp only [Then]
    refine WC.seq (WC.region ?_)
    repeat (first
      | (refine WO.yes rfl ?_)
      | (refine WO.no rfl ?_; simp only [pt])
      | (refine WO.op (by intro; simp only [go_sem, Zz.look, fillP, over, cut, hws, List.map, hmm]; rfl) ?_; simp only [pt])
      | (refine WO.opN (by intro; simp only [go_sem, Zz.look, storeAt, over, setBlk, cut, hws, List.map, hmm]; rfl) ?_))
    refine WO.nil ?_
    simp only [Then]
    refine WC.seq (WC.draw ?_)
    refine WD.free rfl (by intro; simp only [go_sem, fillP, over, cut]; rfl) ?_
    simp only [pt, St.put, List.nil_append, List.cons_append]
    refine WD.bigG (V := [some ⟨0, [.int .i64 s, q]⟩, none, none]) (H2 := [some ⟨0, [.int .i64 s, q]⟩, some ⟨0, [.bool true, .int .i64 ps, .int .i64 0]⟩, some ⟨0, [.int .i64 0, .snil]⟩]) rfl rfl (by intro; simp only [go_sem, Zz.look, fillP, storeAt, setBlk, over, cut]; rfl) rfl rfl rfl ?_
    simp only [pt, St.put, List.nil_append, List.cons_append]
    refine WD.free rfl (by intro; simp only [go_sem, fillP, over, cut]; rfl) ?_
    simp only [pt, St.put, List.nil_append, List.cons_append]
    refine WD.free rfl (by intro; simp only [go_sem, fillP, over, cut, hadd]; rfl) ?_
    simp only [pt, St.put, List.nil_append, List.cons_append]
    refine WD.bigG (V := [none, none, none]) (H2 := [some ⟨0, [.int .i64 s, q]⟩, some ⟨0, [.bool true, .int .i64 ps, .int .i64 0]⟩, some ⟨0, [.int .i64 0, .snil]⟩, some ⟨0, []⟩]) rfl rfl (by intro; simp only [go_sem, Zz.look, fillP, storeAt, setBlk, over, cut]; rfl) rfl rfl rfl ?_
    simp only [pt, St.put, List.nil_append, List.cons_append]
    refine WD.free rfl (by intro; simp only [go_sem, fillP, over, cut]; rfl) ?_
    simp only [pt, St.put, List.nil_append, List.cons_append]
    refine WD.bigG (V := [some ⟨0, [.int .i64 s, q]⟩, none, none, none]) (H2 := [some ⟨0, [.int .i64 s, q]⟩, some ⟨0, [.bool true, .int .i64 ps, .int .i64 0]⟩, some ⟨0, [.int .i64 0, .snil]⟩, some ⟨0, []⟩]) rfl rfl (by intro; simp only [go_sem, Zz.look, fillP, storeAt, setBlk, over, cut]; rfl) rfl rfl rfl ?_
    simp only [pt, St.put, List.nil_append, List.cons_append]
    refine WD.free rfl (by intro; simp only [go_sem, fillP, over, cut]; rfl) ?_
    simp only [pt, St.put, List.nil_append, List.cons_append]
    refine WD.bigG (V := [none, none, none, none]) (H2 := [some ⟨0, [.int .i64 s, q]⟩, some ⟨0, [.bool true, .int .i64 ps, .int .i64 0]⟩, some ⟨0, [.int .i64 0, .snil]⟩, some ⟨0, []⟩]) rfl (limit_slice (xs := qs) hq) (by intro; rw [ev_slice]; exact (congrArg (Option.map _) (hsl _)).trans rfl) rfl rfl rfl ?_
    simp only [pt, St.put, List.nil_append, List.cons_append]
    refine WD.bigG (V := [none, some ⟨0, [.bool true, .int .i64 ps, .int .i64 0]⟩, some ⟨0, [.int .i64 0, .snil]⟩, some ⟨0, []⟩]) (H2 := [some ⟨0, [.int .i64 s, q]⟩, some ⟨0, [.bool true, .int .i64 ps, .int .i64 0]⟩, some ⟨0, [.int .i64 0, .snil]⟩, some ⟨0, []⟩]) rfl rfl (by intro; rw [ev_append]; exact happ) rfl rfl rfl ?_
    simp only [pt, St.put, List.nil_append, List.cons_append]
    refine WD.free rfl (by intro; simp only [go_sem, fillP, over, cut]; rfl) ?_
    simp only [pt, St.put, List.nil_append, List.cons_append]
    refine WD.bigG (V := [none, none, some ⟨0, [.int .i64 0, .snil]⟩, none]) (H2 := [some ⟨0, [.int .i64 s, q]⟩, some ⟨0, [.bool true, .int .i64 ps, .int .i64 0]⟩, some ⟨0, [.int .i64 (s + (((ps - s).toNat : Nat) : Int)), .sref 3 0 0 1 0 (some 0)]⟩, some ⟨0, []⟩]) rfl rfl (by intro; simp only [go_sem, Zz.look, fillP, storeAt, setBlk, over, cut]; rfl) rfl rfl rfl ?_
    simp only [pt, St.put, List.nil_append, List.cons_append]
    refine WD.free rfl (by intro; simp only [go_sem, fillP, over, cut]; rfl) ?_
    simp only [pt, St.put, List.nil_append, List.cons_append]
    refine WD.nil ?_
    simp only [Then]
    refine WC.ret ⟨_, rfl, ?_⟩
    simp [oneRes, gt, resV, resA, resC, resT, resL, Zz.look, cut, flatAV, St.mem, List.take_of_length_le]

  · have hpos : 0 < ds.length := List.length_pos_iff.2 h0
    have fl := flat_ints ds
    refine ⟨.sval false ds.length (ds.map (.int .i64)), .inr ⟨_, rfl⟩, ?_⟩
    have happ : appendAV 1 8 ⟨[none, some ⟨0, [.bool true, .int .i64 ps, .int .i64 0]⟩, some ⟨0, [.int .i64 0, .snil]⟩, some ⟨0, []⟩], []⟩ (.sref 3 0 0 1 0 (some 0)) y = some (.sref 4 0 0 1 ds.length none, ⟨[none, some ⟨0, [.bool true, .int .i64 ps, .int .i64 0]⟩, some ⟨0, [.int .i64 0, .snil]⟩, some ⟨0, []⟩, some ⟨0, ds.map (.int .i64)⟩], []⟩) := by
      rcases hy with ⟨rfl, h⟩ | ⟨f, rfl⟩
      · exact absurd h h0
      · simp only [appendAV, scells, slen, Zz.look, cut, List.getElem?_cons_succ, List.getElem?_cons_zero, Option.bind_eq_bind, Option.bind_some, if_true, List.length_map, Nat.mul_one, Nat.zero_mul, Nat.zero_add, List.length_cons, List.length_nil, Nat.le_refl, List.drop_zero, List.take_zero]
        rw [if_neg (by omega), if_pos (by omega)]
        simp [newBlk]
    refine WF.fn hs hf (by show 2 ≤ 60; decide) ?_
    unfold ir18
    simp only [padTo, List.replicate, List.nil_append, List.append_nil, List.cons_append]
    refine WC.seq (WC.region ?_)
    repeat (first
      | (refine WO.yes rfl ?_)
      | (refine WO.no rfl ?_; simp only [pt])
      | (refine WO.op (by intro; simp only [go_sem, Zz.look, fillP, over, cut]; rfl) ?_; simp only [pt])
      | (refine WO.opN (by intro; simp only [go_sem, Zz.look, storeAt, over, setBlk, cut]; rfl) ?_))
    refine WO.nil ?_
    simp only [Then]
    refine WC.seq (WC.region ?_)
    refine WO.op (by intro; simp only [go_sem, Zz.look, cut, List.drop_zero]; rfl) ?_
    simp only [pt]
    refine WO.call rfl rfl (WF.spec hS (h27' _) ?_)
    simp only [pt]
    repeat (first
      | (refine WO.yes rfl ?_)
      | (refine WO.no rfl ?_; simp only [pt])
      | (refine WO.op (by intro; simp only [go_sem, Zz.look, fillP, over, cut]; rfl) ?_; simp only [pt])
      | (refine WO.opN (by intro; simp only [go_sem, Zz.look, storeAt, over, setBlk, cut]; rfl) ?_))
    refine WO.nil ?_
    simp only [Then]
    refine WC.seq (WC.seq (WC.region ?_))
    repeat (first
      | (refine WO.yes rfl ?_)
      | (refine WO.no rfl ?_; simp only [pt])
      | (refine WO.op (by intro; simp only [go_sem, Zz.look, fillP, over, cut, c1, c2, decide_false, decide_true, bne_self_eq_false]; rfl) ?_; simp only [pt])
      | (refine WO.opN (by intro; simp only [go_sem, Zz.look, storeAt, over, setBlk, cut, c1, c2, decide_false, decide_true, bne_self_eq_false]; rfl) ?_))
    refine WO.nil ?_
    simp only [Then]
    refine WC.no (by simp only [go_sem]) (WC.skip ?_)
    simp only [Then]
    refine WC.seq (WC.seq (WC.region ?_))
    repeat (first
      | (refine WO.yes rfl ?_)
      | (refine WO.no rfl ?_; simp only [pt])
      | (refine WO.op (by intro; simp only [go_sem, Zz.look, fillP, over, cut]; rfl) ?_; simp only [pt])
      | (refine WO.opN (by intro; simp only [go_sem, Zz.look, storeAt, over, setBlk, cut]; rfl) ?_))
    refine WO.op (by intro; exact ev_lenS (n := qs.length) (by simp only [go_sem]; exact hq.len)) ?_
    simp only [pt]
    repeat (first
      | (refine WO.yes rfl ?_)
      | (refine WO.no rfl ?_; simp only [pt])
      | (refine WO.op (by intro; simp only [go_sem, Zz.look, fillP, over, cut, hwa, c3', decide_false]; rfl) ?_; simp only [pt])
      | (refine WO.opN (by intro; simp only [go_sem, Zz.look, storeAt, over, setBlk, cut, hwa, c3', decide_false]; rfl) ?_))
    refine WO.nil ?_
    simp only [Then]
    refine WC.no (by simp only [go_sem, c3', decide_false]) (WC.skip ?_)
    simp only [Then]
    refine WC.seq (WC.region ?_)
    repeat (first
      | (refine WO.yes rfl ?_)
      | (refine WO.no rfl ?_; simp only [pt])
      | (refine WO.op (by intro; simp only [go_sem, Zz.look, fillP, over, cut, hws, List.map, hmm]; rfl) ?_; simp only [pt])
      | (refine WO.opN (by intro; simp only [go_sem, Zz.look, storeAt, over, setBlk, cut, hws, List.map, hmm]; rfl) ?_))
    refine WO.nil ?_
    simp only [Then]
    refine WC.seq (WC.draw ?_)
    refine WD.free rfl (by intro; simp only [go_sem, fillP, over, cut]; rfl) ?_
    simp only [pt, St.put, List.nil_append, List.cons_append]
    refine WD.bigG (V := [some ⟨0, [.int .i64 s, q]⟩, none, none]) (H2 := [some ⟨0, [.int .i64 s, q]⟩, some ⟨0, [.bool true, .int .i64 ps, .int .i64 0]⟩, some ⟨0, [.int .i64 0, .snil]⟩]) rfl rfl (by intro; simp only [go_sem, Zz.look, fillP, storeAt, setBlk, over, cut]; rfl) rfl rfl rfl ?_
    simp only [pt, St.put, List.nil_append, List.cons_append]
    refine WD.free rfl (by intro; simp only [go_sem, fillP, over, cut]; rfl) ?_
    simp only [pt, St.put, List.nil_append, List.cons_append]
    refine WD.free rfl (by intro; simp only [go_sem, fillP, over, cut, hadd]; rfl) ?_
    simp only [pt, St.put, List.nil_append, List.cons_append]
    refine WD.bigG (V := [none, none, none]) (H2 := [some ⟨0, [.int .i64 s, q]⟩, some ⟨0, [.bool true, .int .i64 ps, .int .i64 0]⟩, some ⟨0, [.int .i64 0, .snil]⟩, some ⟨0, []⟩]) rfl rfl (by intro; simp only [go_sem, Zz.look, fillP, storeAt, setBlk, over, cut]; rfl) rfl rfl rfl ?_
    simp only [pt, St.put, List.nil_append, List.cons_append]
    refine WD.free rfl (by intro; simp only [go_sem, fillP, over, cut]; rfl) ?_
    simp only [pt, St.put, List.nil_append, List.cons_append]
    refine WD.bigG (V := [some ⟨0, [.int .i64 s, q]⟩, none, none, none]) (H2 := [some ⟨0, [.int .i64 s, q]⟩, some ⟨0, [.bool true, .int .i64 ps, .int .i64 0]⟩, some ⟨0, [.int .i64 0, .snil]⟩, some ⟨0, []⟩]) rfl rfl (by intro; simp only [go_sem, Zz.look, fillP, storeAt, setBlk, over, cut]; rfl) rfl rfl rfl ?_
    simp only [pt, St.put, List.nil_append, List.cons_append]
    refine WD.free rfl (by intro; simp only [go_sem, fillP, over, cut]; rfl) ?_
    simp only [pt, St.put, List.nil_append, List.cons_append]
    refine WD.bigG (V := [none, none, none, none]) (H2 := [some ⟨0, [.int .i64 s, q]⟩, some ⟨0, [.bool true, .int .i64 ps, .int .i64 0]⟩, some ⟨0, [.int .i64 0, .snil]⟩, some ⟨0, []⟩]) rfl (limit_slice (xs := qs) hq) (by intro; rw [ev_slice]; exact (congrArg (Option.map _) (hsl _)).trans rfl) rfl rfl rfl ?_
    simp only [pt, St.put, List.nil_append, List.cons_append]
    refine WD.bigG (V := [none, some ⟨0, [.bool true, .int .i64 ps, .int .i64 0]⟩, some ⟨0, [.int .i64 0, .snil]⟩, some ⟨0, []⟩]) (H2 := [some ⟨0, [.int .i64 s, q]⟩, some ⟨0, [.bool true, .int .i64 ps, .int .i64 0]⟩, some ⟨0, [.int .i64 0, .snil]⟩, some ⟨0, []⟩, some ⟨0, ds.map (.int .i64)⟩]) rfl rfl (by intro; rw [ev_append]; exact happ) rfl rfl rfl ?_
    simp only [pt, St.put, List.nil_append, List.cons_append]
    refine WD.free rfl (by intro; simp only [go_sem, fillP, over, cut]; rfl) ?_
    simp only [pt, St.put, List.nil_append, List.cons_append]
    refine WD.bigG (V := [none, none, some ⟨0, [.int .i64 0, .snil]⟩, none, none]) (H2 := [some ⟨0, [.int .i64 s, q]⟩, some ⟨0, [.bool true, .int .i64 ps, .int .i64 0]⟩, some ⟨0, [.int .i64 (s + (((ps - s).toNat : Nat) : Int)), .sref 4 0 0 1 ds.length none]⟩, some ⟨0, []⟩, some ⟨0, ds.map (.int .i64)⟩]) rfl rfl (by intro; simp only [go_sem, Zz.look, fillP, storeAt, setBlk, over, cut]; rfl) rfl rfl rfl ?_
    simp only [pt, St.put, List.nil_append, List.cons_append]
    refine WD.free rfl (by intro; simp only [go_sem, fillP, over, cut]; rfl) ?_
    simp only [pt, St.put, List.nil_append, List.cons_append]
    refine WD.nil ?_
    simp only [Then]
    refine WC.ret ⟨_, rfl, ?_⟩
    simp [oneRes, gt, resV, resA, resC, resT, resL, Zz.look, cut, flatAV, St.mem, List.take_of_length_le]

end Go.Proofs.Ytpddngcgajjacaa

set_option linter.unusedSimpArgs false
set_option linter.unusedVariables false
namespace Go.Proofs.Ytpddngcgajjacaa
open Go.Zz


theorem rtake_bad {Γ : Env} {ps bd : Int} {ack : Bool} {g : AV} {gs : List Int} (hs : Γ.spec 20 = none) (hf : Γ.fn 20 = some ir20) (hg : IntS g gs) (hmax : gs.length < 9223372036854775808)
    (hbad : ¬ (gs.length ≤ 1000 ∧ ack = false ∧ 0 ≤ ps ∧ ps < 1000)) :
    WF Γ (.func 20 [] []) [.agg [g], .agg [.bool ack, .int .i64 ps, .int .i64 bd]] ⟨[], []⟩ fun y m' => resV m'.heap y = some (.tuple [.agg [.snil], .agg [.bool false, .int .i64 0, .int .i64 0], .int .i64 1]) := by
  refine WF.fn hs hf (by show 2 ≤ 47; decide) ?_
  unfold ir20
  simp only [padTo, List.replicate, List.nil_append, List.append_nil, List.cons_append]
  refine WC.seq (WC.region ?_)
  repeat (first
    | (refine WO.yes rfl ?_)
    | (refine WO.no rfl ?_; simp only [pt])
    | (refine WO.op (by intro; simp only [go_sem, Zz.look, fillP, over, cut]; rfl) ?_; simp only [pt])
    | (refine WO.opN (by intro; simp only [go_sem, Zz.look, storeAt, over, setBlk, cut]; rfl) ?_))
  refine WO.nil ?_
  simp only [Then]
  refine WC.seq (WC.seq (WC.region ?_))
  repeat (first
    | (refine WO.yes rfl ?_)
    | (refine WO.no rfl ?_; simp only [pt])
    | (refine WO.op (by intro; simp only [go_sem, Zz.look, fillP, over, cut]; rfl) ?_; simp only [pt])
    | (refine WO.opN (by intro; simp only [go_sem, Zz.look, storeAt, over, setBlk, cut]; rfl) ?_))
  refine WO.op (by intro; exact ev_lenS (n := gs.length) (by simp only [go_sem]; exact hg.len)) ?_
  simp only [pt]
  by_cases c0 : (1000 : Int) < gs.length
  · repeat (first
      | (refine WO.yes rfl ?_)
      | (refine WO.no rfl ?_; simp only [pt])
      | (refine WO.op (by intro; simp only [go_sem, Zz.look, fillP, over, cut, c0, decide_true]; rfl) ?_; simp only [pt])
      | (refine WO.opN (by intro; simp only [go_sem, Zz.look, storeAt, over, setBlk, cut, c0, decide_true]; rfl) ?_))
    refine WO.nil ?_
    simp only [Then]
    refine WC.yes (by simp only [go_sem]) (WC.seq (WC.region ?_))
    repeat (first
      | (refine WO.yes rfl ?_)
      | (refine WO.no rfl ?_; simp only [pt])
      | (refine WO.op (by intro; simp only [go_sem, Zz.look, fillP, over, cut]; rfl) ?_; simp only [pt])
      | (refine WO.opN (by intro; simp only [go_sem, Zz.look, storeAt, over, setBlk, cut]; rfl) ?_))
    refine WO.nil ?_
    simp only [Then]
    exact WC.ret ⟨_, rfl, rfl⟩
  · cases ack with
    | true =>
      repeat (first
        | (refine WO.yes rfl ?_)
        | (refine WO.no rfl ?_; simp only [pt])
        | (refine WO.op (by intro; simp only [go_sem, Zz.look, fillP, over, cut, c0, decide_false]; rfl) ?_; simp only [pt])
        | (refine WO.opN (by intro; simp only [go_sem, Zz.look, storeAt, over, setBlk, cut, c0, decide_false]; rfl) ?_))
      refine WO.nil ?_
      simp only [Then]
      refine WC.yes (by simp only [go_sem]) (WC.seq (WC.region ?_))
      repeat (first
        | (refine WO.yes rfl ?_)
        | (refine WO.no rfl ?_; simp only [pt])
        | (refine WO.op (by intro; simp only [go_sem, Zz.look, fillP, over, cut]; rfl) ?_; simp only [pt])
        | (refine WO.opN (by intro; simp only [go_sem, Zz.look, storeAt, over, setBlk, cut]; rfl) ?_))
      refine WO.nil ?_
      simp only [Then]
      exact WC.ret ⟨_, rfl, rfl⟩
    | false =>
      by_cases c1 : ps < 0
      · repeat (first
          | (refine WO.yes rfl ?_)
          | (refine WO.no rfl ?_; simp only [pt])
          | (refine WO.op (by intro; simp only [go_sem, Zz.look, fillP, over, cut, c0, c1, decide_true, decide_false]; rfl) ?_; simp only [pt])
          | (refine WO.opN (by intro; simp only [go_sem, Zz.look, storeAt, over, setBlk, cut, c0, c1, decide_true, decide_false]; rfl) ?_))
        refine WO.nil ?_
        simp only [Then]
        refine WC.yes (by simp only [go_sem]) (WC.seq (WC.region ?_))
        repeat (first
          | (refine WO.yes rfl ?_)
          | (refine WO.no rfl ?_; simp only [pt])
          | (refine WO.op (by intro; simp only [go_sem, Zz.look, fillP, over, cut]; rfl) ?_; simp only [pt])
          | (refine WO.opN (by intro; simp only [go_sem, Zz.look, storeAt, over, setBlk, cut]; rfl) ?_))
        refine WO.nil ?_
        simp only [Then]
        exact WC.ret ⟨_, rfl, rfl⟩
      · by_cases c2 : 1000 ≤ ps
        · repeat (first
            | (refine WO.yes rfl ?_)
            | (refine WO.no rfl ?_; simp only [pt])
            | (refine WO.op (by intro; simp only [go_sem, Zz.look, fillP, over, cut, c0, c1, c2, decide_true, decide_false]; rfl) ?_; simp only [pt])
            | (refine WO.opN (by intro; simp only [go_sem, Zz.look, storeAt, over, setBlk, cut, c0, c1, c2, decide_true, decide_false]; rfl) ?_))
          refine WO.nil ?_
          simp only [Then]
          refine WC.yes (by simp only [go_sem]) (WC.seq (WC.region ?_))
          repeat (first
            | (refine WO.yes rfl ?_)
            | (refine WO.no rfl ?_; simp only [pt])
            | (refine WO.op (by intro; simp only [go_sem, Zz.look, fillP, over, cut]; rfl) ?_; simp only [pt])
            | (refine WO.opN (by intro; simp only [go_sem, Zz.look, storeAt, over, setBlk, cut]; rfl) ?_))
          refine WO.nil ?_
          simp only [Then]
          exact WC.ret ⟨_, rfl, rfl⟩
        · exact absurd ⟨by omega, rfl, by omega, by omega⟩ hbad

theorem rtake_good {Γ : Env} {ps bd : Int} {g : AV} {gs : List Int} (hs : Γ.spec 20 = none) (hf : Γ.fn 20 = some ir20) (hg : IntS g gs) (hmax : gs.length ≤ 1000) (h1 : 0 ≤ ps) (h2 : ps < 1000) :
    ∃ v, IntS v (takes gs ps bd) ∧ WF Γ (.func 20 [] []) [.agg [g], .agg [.bool false, .int .i64 ps, .int .i64 bd]] ⟨[], []⟩ fun y m' => resV m'.heap y = some (.tuple [.agg [v], .agg [.bool true, .int .i64 (takes gs ps bd).length, .int .i64 0], .int .i64 0]) := by
  have c0 : ¬ (1000 : Int) < gs.length := by omega
  have c1 : ¬ ps < 0 := by omega
  have c2 : ¬ 1000 ≤ ps := by omega
  by_cases h0 : gs = []
  · have hl0 : gs.length = 0 := by rw [h0]; rfl
    subst h0
    have happ : appendAV 1 8 ⟨[some ⟨0, [g]⟩, some ⟨0, [.bool false, .int .i64 ps, .int .i64 bd]⟩, some ⟨0, [.snil]⟩, some ⟨0, [.bool false, .int .i64 0, .int .i64 0]⟩, some ⟨0, []⟩], []⟩ (.sref 4 0 0 1 0 (some 0)) g = some (.sref 4 0 0 1 0 (some 0), ⟨[some ⟨0, [g]⟩, some ⟨0, [.bool false, .int .i64 ps, .int .i64 bd]⟩, some ⟨0, [.snil]⟩, some ⟨0, [.bool false, .int .i64 0, .int .i64 0]⟩, some ⟨0, []⟩], []⟩) := by
      rcases hg with ⟨rfl, _⟩ | ⟨f, rfl⟩ <;> rfl
    by_cases cond : ps = 0
    · have ht : takes [] ps bd = [bd] := by simp [takes, cond]
      have cb : (ps == ((0 : Nat) : Int)) = true := by simpa using cond
      rw [ht]
      refine ⟨.sval false 1 [.int .i64 bd], .inr ⟨_, rfl⟩, ?_⟩
      have happ2 : appendAV 1 8 ⟨[some ⟨0, [g]⟩, some ⟨0, [.bool false, .int .i64 ps, .int .i64 bd]⟩, some ⟨0, [.snil]⟩, some ⟨0, [.bool false, .int .i64 0, .int .i64 0]⟩, some ⟨0, []⟩, some ⟨0, [.int .i64 bd]⟩], []⟩ (.sref 4 0 0 1 0 (some 0)) (.sref 5 0 0 1 1 (some 1)) = some (.sref 6 0 0 1 1 none, ⟨[some ⟨0, [g]⟩, some ⟨0, [.bool false, .int .i64 ps, .int .i64 bd]⟩, some ⟨0, [.snil]⟩, some ⟨0, [.bool false, .int .i64 0, .int .i64 0]⟩, some ⟨0, []⟩, some ⟨0, [.int .i64 bd]⟩, some ⟨0, [.int .i64 bd]⟩], []⟩) := rfl
      refine WF.fn hs hf (by show 2 ≤ 47; decide) ?_
      unfold ir20
      simp only [padTo, List.replicate, List.nil_append, List.append_nil, List.cons_append]
      refine WC.seq (WC.region ?_)
      repeat (first
        | (refine WO.yes rfl ?_)
        | (refine WO.no rfl ?_; simp only [pt])
        | (refine WO.op (by intro; simp only [go_sem, Zz.look, fillP, over, cut]; rfl) ?_; simp only [pt])
        | (refine WO.opN (by intro; simp only [go_sem, Zz.look, storeAt, over, setBlk, cut]; rfl) ?_))
      refine WO.nil ?_
      simp only [Then]
      refine WC.seq (WC.seq (WC.region ?_))
      repeat (first
        | (refine WO.yes rfl ?_)
        | (refine WO.no rfl ?_; simp only [pt])
        | (refine WO.op (by intro; simp only [go_sem, Zz.look, fillP, over, cut]; rfl) ?_; simp only [pt])
        | (refine WO.opN (by intro; simp only [go_sem, Zz.look, storeAt, over, setBlk, cut]; rfl) ?_))
      refine WO.op (by intro; exact ev_lenS (n := 0) (by simp only [go_sem]; exact hg.len)) ?_
      simp only [pt]
      repeat (first
        | (refine WO.yes rfl ?_)
        | (refine WO.no rfl ?_; simp only [pt])
        | (refine WO.op (by intro; simp only [go_sem, Zz.look, fillP, over, cut, c0, c1, c2, decide_false]; rfl) ?_; simp only [pt])
        | (refine WO.opN (by intro; simp only [go_sem, Zz.look, storeAt, over, setBlk, cut, c0, c1, c2, decide_false]; rfl) ?_))
      refine WO.nil ?_
      simp only [Then]
      refine WC.no (by simp only [go_sem]) (WC.skip ?_)
      simp only [Then]
      refine WC.seq (WC.region ?_)
      repeat (first
        | (refine WO.yes rfl ?_)
        | (refine WO.no rfl ?_; simp only [pt])
        | (refine WO.op (by intro; simp only [go_sem, Zz.look, fillP, over, cut]; rfl) ?_; simp only [pt])
        | (refine WO.opN (by intro; simp only [go_sem, Zz.look, storeAt, over, setBlk, cut]; rfl) ?_))
      refine WO.op (by intro; rw [ev_append]; exact happ) ?_
      simp only [pt]
      repeat (first
        | (refine WO.yes rfl ?_)
        | (refine WO.no rfl ?_; simp only [pt])
        | (refine WO.op (by intro; simp only [go_sem, Zz.look, fillP, over, cut]; rfl) ?_; simp only [pt])
        | (refine WO.opN (by intro; simp only [go_sem, Zz.look, storeAt, over, setBlk, cut]; rfl) ?_))
      refine WO.nil ?_
      simp only [Then]
      refine WC.seq (WC.seq (WC.region ?_))
      repeat (first
        | (refine WO.yes rfl ?_)
        | (refine WO.no rfl ?_; simp only [pt])
        | (refine WO.op (by intro; simp only [go_sem, Zz.look, fillP, over, cut]; rfl) ?_; simp only [pt])
        | (refine WO.opN (by intro; simp only [go_sem, Zz.look, storeAt, over, setBlk, cut]; rfl) ?_))
      try (
        refine WO.op (by intro; exact ev_lenS rfl) ?_
        simp only [pt])
      repeat (first
        | (refine WO.yes rfl ?_)
        | (refine WO.no rfl ?_; simp only [pt])
        | (refine WO.op (by intro; simp only [go_sem, Zz.look, fillP, over, cut, cb]; rfl) ?_; simp only [pt])
        | (refine WO.opN (by intro; simp only [go_sem, Zz.look, storeAt, over, setBlk, cut, cb]; rfl) ?_))
      refine WO.nil ?_
      simp only [Then]
      refine WC.yes (by simp only [go_sem, cb]) (WC.region ?_)
      repeat (first
        | (refine WO.yes rfl ?_)
        | (refine WO.no rfl ?_; simp only [pt])
        | (refine WO.op (by intro; simp only [go_sem, Zz.look, fillP, over, cut]; rfl) ?_; simp only [pt])
        | (refine WO.opN (by intro; simp only [go_sem, Zz.look, storeAt, over, setBlk, cut]; rfl) ?_))
      try (
        refine WO.op (by intro; rw [ev_append]; exact happ2) ?_
        simp only [pt])
      repeat (first
        | (refine WO.yes rfl ?_)
        | (refine WO.no rfl ?_; simp only [pt])
        | (refine WO.op (by intro; simp only [go_sem, Zz.look, fillP, over, cut]; rfl) ?_; simp only [pt])
        | (refine WO.opN (by intro; simp only [go_sem, Zz.look, storeAt, over, setBlk, cut]; rfl) ?_))
      refine WO.nil ?_
      simp only [Then]
      refine WC.seq (WC.region ?_)
      repeat (first
        | (refine WO.yes rfl ?_)
        | (refine WO.no rfl ?_; simp only [pt])
        | (refine WO.op (by intro; simp only [go_sem, Zz.look, fillP, over, cut]; rfl) ?_; simp only [pt])
        | (refine WO.opN (by intro; simp only [go_sem, Zz.look, storeAt, over, setBlk, cut]; rfl) ?_))
      try (
        refine WO.op (by intro; exact ev_lenS rfl) ?_
        simp only [pt])
      repeat (first
        | (refine WO.yes rfl ?_)
        | (refine WO.no rfl ?_; simp only [pt])
        | (refine WO.op (by intro; simp only [go_sem, Zz.look, fillP, over, cut]; rfl) ?_; simp only [pt])
        | (refine WO.opN (by intro; simp only [go_sem, Zz.look, storeAt, over, setBlk, cut]; rfl) ?_))
      refine WO.nil ?_
      simp only [Then]
      refine WC.ret ⟨_, rfl, ?_⟩
      simp [oneRes, gt, resV, resA, resC, resT, resL, Zz.look, cut, flatAV, St.mem, List.take_of_length_le, AV.cells, evRes, hl0]

    · have ht : takes [] ps bd = [] := by simp [takes, cond]
      have cb : (ps == ((0 : Nat) : Int)) = false := by simpa using cond
      rw [ht]
      refine ⟨.sval true 0 [], .inr ⟨_, rfl⟩, ?_⟩
      refine WF.fn hs hf (by show 2 ≤ 47; decide) ?_
      unfold ir20
      simp only [padTo, List.replicate, List.nil_append, List.append_nil, List.cons_append]
      refine WC.seq (WC.region ?_)
      repeat (first
        | (refine WO.yes rfl ?_)
        | (refine WO.no rfl ?_; simp only [pt])
        | (refine WO.op (by intro; simp only [go_sem, Zz.look, fillP, over, cut]; rfl) ?_; simp only [pt])
        | (refine WO.opN (by intro; simp only [go_sem, Zz.look, storeAt, over, setBlk, cut]; rfl) ?_))
      refine WO.nil ?_
      simp only [Then]
      refine WC.seq (WC.seq (WC.region ?_))
      repeat (first
        | (refine WO.yes rfl ?_)
        | (refine WO.no rfl ?_; simp only [pt])
        | (refine WO.op (by intro; simp only [go_sem, Zz.look, fillP, over, cut]; rfl) ?_; simp only [pt])
        | (refine WO.opN (by intro; simp only [go_sem, Zz.look, storeAt, over, setBlk, cut]; rfl) ?_))
      refine WO.op (by intro; exact ev_lenS (n := 0) (by simp only [go_sem]; exact hg.len)) ?_
      simp only [pt]
      repeat (first
        | (refine WO.yes rfl ?_)
        | (refine WO.no rfl ?_; simp only [pt])
        | (refine WO.op (by intro; simp only [go_sem, Zz.look, fillP, over, cut, c0, c1, c2, decide_false]; rfl) ?_; simp only [pt])
        | (refine WO.opN (by intro; simp only [go_sem, Zz.look, storeAt, over, setBlk, cut, c0, c1, c2, decide_false]; rfl) ?_))
      refine WO.nil ?_
      simp only [Then]
      refine WC.no (by simp only [go_sem]) (WC.skip ?_)
      simp only [Then]
      refine WC.seq (WC.region ?_)
      repeat (first
        | (refine WO.yes rfl ?_)
        | (refine WO.no rfl ?_; simp only [pt])
        | (refine WO.op (by intro; simp only [go_sem, Zz.look, fillP, over, cut]; rfl) ?_; simp only [pt])
        | (refine WO.opN (by intro; simp only [go_sem, Zz.look, storeAt, over, setBlk, cut]; rfl) ?_))
      refine WO.op (by intro; rw [ev_append]; exact happ) ?_
      simp only [pt]
      repeat (first
        | (refine WO.yes rfl ?_)
        | (refine WO.no rfl ?_; simp only [pt])
        | (refine WO.op (by intro; simp only [go_sem, Zz.look, fillP, over, cut]; rfl) ?_; simp only [pt])
        | (refine WO.opN (by intro; simp only [go_sem, Zz.look, storeAt, over, setBlk, cut]; rfl) ?_))
      refine WO.nil ?_
      simp only [Then]
      refine WC.seq (WC.seq (WC.region ?_))
      repeat (first
        | (refine WO.yes rfl ?_)
        | (refine WO.no rfl ?_; simp only [pt])
        | (refine WO.op (by intro; simp only [go_sem, Zz.look, fillP, over, cut]; rfl) ?_; simp only [pt])
        | (refine WO.opN (by intro; simp only [go_sem, Zz.look, storeAt, over, setBlk, cut]; rfl) ?_))
      try (
        refine WO.op (by intro; exact ev_lenS rfl) ?_
        simp only [pt])
      repeat (first
        | (refine WO.yes rfl ?_)
        | (refine WO.no rfl ?_; simp only [pt])
        | (refine WO.op (by intro; simp only [go_sem, Zz.look, fillP, over, cut, cb]; rfl) ?_; simp only [pt])
        | (refine WO.opN (by intro; simp only [go_sem, Zz.look, storeAt, over, setBlk, cut, cb]; rfl) ?_))
      refine WO.nil ?_
      simp only [Then]
      refine WC.no (by simp only [go_sem, cb]) (WC.skip ?_)
      simp only [Then]
      refine WC.seq (WC.region ?_)
      repeat (first
        | (refine WO.yes rfl ?_)
        | (refine WO.no rfl ?_; simp only [pt])
        | (refine WO.op (by intro; simp only [go_sem, Zz.look, fillP, over, cut]; rfl) ?_; simp only [pt])
        | (refine WO.opN (by intro; simp only [go_sem, Zz.look, storeAt, over, setBlk, cut]; rfl) ?_))
      try (
        refine WO.op (by intro; exact ev_lenS rfl) ?_
        simp only [pt])
      repeat (first
        | (refine WO.yes rfl ?_)
        | (refine WO.no rfl ?_; simp only [pt])
        | (refine WO.op (by intro; simp only [go_sem, Zz.look, fillP, over, cut]; rfl) ?_; simp only [pt])
        | (refine WO.opN (by intro; simp only [go_sem, Zz.look, storeAt, over, setBlk, cut]; rfl) ?_))
      refine WO.nil ?_
      simp only [Then]
      refine WC.ret ⟨_, rfl, ?_⟩
      simp [oneRes, gt, resV, resA, resC, resT, resL, Zz.look, cut, flatAV, St.mem, List.take_of_length_le, AV.cells, evRes, hl0]

  · have hpos : 0 < gs.length := List.length_pos_iff.2 h0
    have hl0 : (0 : Nat) = 0 := rfl
    have fl := flat_ints gs
    have happ : appendAV 1 8 ⟨[some ⟨0, [g]⟩, some ⟨0, [.bool false, .int .i64 ps, .int .i64 bd]⟩, some ⟨0, [.snil]⟩, some ⟨0, [.bool false, .int .i64 0, .int .i64 0]⟩, some ⟨0, []⟩], []⟩ (.sref 4 0 0 1 0 (some 0)) g = some (.sref 5 0 0 1 gs.length none, ⟨[some ⟨0, [g]⟩, some ⟨0, [.bool false, .int .i64 ps, .int .i64 bd]⟩, some ⟨0, [.snil]⟩, some ⟨0, [.bool false, .int .i64 0, .int .i64 0]⟩, some ⟨0, []⟩, some ⟨0, gs.map (.int .i64)⟩], []⟩) := by
      rcases hg with ⟨rfl, h⟩ | ⟨f, rfl⟩
      · exact absurd h h0
      · simp only [appendAV, scells, slen, Zz.look, cut, List.getElem?_cons_succ, List.getElem?_cons_zero, Option.bind_eq_bind, Option.bind_some, if_true, List.length_map, Nat.mul_one, Nat.zero_mul, Nat.zero_add, List.length_cons, List.length_nil, Nat.le_refl, List.drop_zero, List.take_zero]
        rw [if_neg (by omega), if_pos (by omega)]
        simp [newBlk]
    by_cases cond : ps = gs.length
    · have ht : takes gs ps bd = gs ++ [bd] := by simp [takes, cond]
      have cb : (ps == (gs.length : Int)) = true := by simpa using cond
      rw [ht]
      refine ⟨.sval false (gs.length + 1) (gs.map (.int .i64) ++ [.int .i64 bd]), .inr ⟨false, by simp⟩, ?_⟩
      have happ2 : appendAV 1 8 ⟨[some ⟨0, [g]⟩, some ⟨0, [.bool false, .int .i64 ps, .int .i64 bd]⟩, some ⟨0, [.snil]⟩, some ⟨0, [.bool false, .int .i64 0, .int .i64 0]⟩, some ⟨0, []⟩, some ⟨0, gs.map (.int .i64)⟩, some ⟨0, [.int .i64 bd]⟩], []⟩ (.sref 5 0 0 1 gs.length none) (.sref 6 0 0 1 1 (some 1)) = some (.sref 5 1 0 1 (gs.length + 1) none, ⟨[some ⟨0, [g]⟩, some ⟨0, [.bool false, .int .i64 ps, .int .i64 bd]⟩, some ⟨0, [.snil]⟩, some ⟨0, [.bool false, .int .i64 0, .int .i64 0]⟩, some ⟨0, []⟩, some ⟨1, gs.map (.int .i64) ++ [.int .i64 bd]⟩, some ⟨0, [.int .i64 bd]⟩], []⟩) := by
        simp only [appendAV, scells, slen, Zz.look, cut, List.getElem?_cons_succ, List.getElem?_cons_zero, Option.bind_eq_bind, Option.bind_some, if_true, List.length_map, Nat.mul_one, Nat.zero_mul, Nat.zero_add, List.length_cons, List.length_nil, Nat.le_refl, List.drop_zero, List.take_zero]
        rw [if_neg (by omega), if_pos (by omega)]
        simp [setBlk, List.take_of_length_le]
      refine WF.fn hs hf (by show 2 ≤ 47; decide) ?_
      unfold ir20
      simp only [padTo, List.replicate, List.nil_append, List.append_nil, List.cons_append]
      refine WC.seq (WC.region ?_)
      repeat (first
        | (refine WO.yes rfl ?_)
        | (refine WO.no rfl ?_; simp only [pt])
        | (refine WO.op (by intro; simp only [go_sem, Zz.look, fillP, over, cut]; rfl) ?_; simp only [pt])
        | (refine WO.opN (by intro; simp only [go_sem, Zz.look, storeAt, over, setBlk, cut]; rfl) ?_))
      refine WO.nil ?_
      simp only [Then]
      refine WC.seq (WC.seq (WC.region ?_))
      repeat (first
        | (refine WO.yes rfl ?_)
        | (refine WO.no rfl ?_; simp only [pt])
        | (refine WO.op (by intro; simp only [go_sem, Zz.look, fillP, over, cut]; rfl) ?_; simp only [pt])
        | (refine WO.opN (by intro; simp only [go_sem, Zz.look, storeAt, over, setBlk, cut]; rfl) ?_))
      refine WO.op (by intro; exact ev_lenS (n := gs.length) (by simp only [go_sem]; exact hg.len)) ?_
      simp only [pt]
      repeat (first
        | (refine WO.yes rfl ?_)
        | (refine WO.no rfl ?_; simp only [pt])
        | (refine WO.op (by intro; simp only [go_sem, Zz.look, fillP, over, cut, c0, c1, c2, decide_false]; rfl) ?_; simp only [pt])
        | (refine WO.opN (by intro; simp only [go_sem, Zz.look, storeAt, over, setBlk, cut, c0, c1, c2, decide_false]; rfl) ?_))
      refine WO.nil ?_
      simp only [Then]
      refine WC.no (by simp only [go_sem]) (WC.skip ?_)
      simp only [Then]
      refine WC.seq (WC.region ?_)
      repeat (first
        | (refine WO.yes rfl ?_)
        | (refine WO.no rfl ?_; simp only [pt])
        | (refine WO.op (by intro; simp only [go_sem, Zz.look, fillP, over, cut]; rfl) ?_; simp only [pt])
        | (refine WO.opN (by intro; simp only [go_sem, Zz.look, storeAt, over, setBlk, cut]; rfl) ?_))
      refine WO.op (by intro; rw [ev_append]; exact happ) ?_
      simp only [pt]
      repeat (first
        | (refine WO.yes rfl ?_)
        | (refine WO.no rfl ?_; simp only [pt])
        | (refine WO.op (by intro; simp only [go_sem, Zz.look, fillP, over, cut]; rfl) ?_; simp only [pt])
        | (refine WO.opN (by intro; simp only [go_sem, Zz.look, storeAt, over, setBlk, cut]; rfl) ?_))
      refine WO.nil ?_
      simp only [Then]
      refine WC.seq (WC.seq (WC.region ?_))
      repeat (first
        | (refine WO.yes rfl ?_)
        | (refine WO.no rfl ?_; simp only [pt])
        | (refine WO.op (by intro; simp only [go_sem, Zz.look, fillP, over, cut]; rfl) ?_; simp only [pt])
        | (refine WO.opN (by intro; simp only [go_sem, Zz.look, storeAt, over, setBlk, cut]; rfl) ?_))
      try (
        refine WO.op (by intro; exact ev_lenS rfl) ?_
        simp only [pt])
      repeat (first
        | (refine WO.yes rfl ?_)
        | (refine WO.no rfl ?_; simp only [pt])
        | (refine WO.op (by intro; simp only [go_sem, Zz.look, fillP, over, cut, cb]; rfl) ?_; simp only [pt])
        | (refine WO.opN (by intro; simp only [go_sem, Zz.look, storeAt, over, setBlk, cut, cb]; rfl) ?_))
      refine WO.nil ?_
      simp only [Then]
      refine WC.yes (by simp only [go_sem, cb]) (WC.region ?_)
      repeat (first
        | (refine WO.yes rfl ?_)
        | (refine WO.no rfl ?_; simp only [pt])
        | (refine WO.op (by intro; simp only [go_sem, Zz.look, fillP, over, cut]; rfl) ?_; simp only [pt])
        | (refine WO.opN (by intro; simp only [go_sem, Zz.look, storeAt, over, setBlk, cut]; rfl) ?_))
      try (
        refine WO.op (by intro; rw [ev_append]; exact happ2) ?_
        simp only [pt])
      repeat (first
        | (refine WO.yes rfl ?_)
        | (refine WO.no rfl ?_; simp only [pt])
        | (refine WO.op (by intro; simp only [go_sem, Zz.look, fillP, over, cut]; rfl) ?_; simp only [pt])
        | (refine WO.opN (by intro; simp only [go_sem, Zz.look, storeAt, over, setBlk, cut]; rfl) ?_))
      refine WO.nil ?_
      simp only [Then]
      refine WC.seq (WC.region ?_)
      repeat (first
        | (refine WO.yes rfl ?_)
        | (refine WO.no rfl ?_; simp only [pt])
        | (refine WO.op (by intro; simp only [go_sem, Zz.look, fillP, over, cut]; rfl) ?_; simp only [pt])
        | (refine WO.opN (by intro; simp only [go_sem, Zz.look, storeAt, over, setBlk, cut]; rfl) ?_))
      try (
        refine WO.op (by intro; exact ev_lenS rfl) ?_
        simp only [pt])
      repeat (first
        | (refine WO.yes rfl ?_)
        | (refine WO.no rfl ?_; simp only [pt])
        | (refine WO.op (by intro; simp only [go_sem, Zz.look, fillP, over, cut]; rfl) ?_; simp only [pt])
        | (refine WO.opN (by intro; simp only [go_sem, Zz.look, storeAt, over, setBlk, cut]; rfl) ?_))
      refine WO.nil ?_
      simp only [Then]
      refine WC.ret ⟨_, rfl, ?_⟩
      simp [oneRes, gt, resV, resA, resC, resT, resL, Zz.look, cut, flatAV, St.mem, List.take_of_length_le, AV.cells, evRes, hl0]

    · have ht : takes gs ps bd = gs := by simp [takes, cond]
      have cb : (ps == (gs.length : Int)) = false := by simpa using cond
      rw [ht]
      refine ⟨.sval false gs.length (gs.map (.int .i64)), .inr ⟨false, rfl⟩, ?_⟩
      refine WF.fn hs hf (by show 2 ≤ 47; decide) ?_
      unfold ir20
      simp only [padTo, List.replicate, List.nil_append, List.append_nil, List.cons_append]
      refine WC.seq (WC.region ?_)
      repeat (first
        | (refine WO.yes rfl ?_)
        | (refine WO.no rfl ?_; simp only [pt])
        | (refine WO.op (by intro; simp only [go_sem, Zz.look, fillP, over, cut]; rfl) ?_; simp only [pt])
        | (refine WO.opN (by intro; simp only [go_sem, Zz.look, storeAt, over, setBlk, cut]; rfl) ?_))
      refine WO.nil ?_
      simp only [Then]
      refine WC.seq (WC.seq (WC.region ?_))
      repeat (first
        | (refine WO.yes rfl ?_)
        | (refine WO.no rfl ?_; simp only [pt])
        | (refine WO.op (by intro; simp only [go_sem, Zz.look, fillP, over, cut]; rfl) ?_; simp only [pt])
        | (refine WO.opN (by intro; simp only [go_sem, Zz.look, storeAt, over, setBlk, cut]; rfl) ?_))
      refine WO.op (by intro; exact ev_lenS (n := gs.length) (by simp only [go_sem]; exact hg.len)) ?_
      simp only [pt]
      repeat (first
        | (refine WO.yes rfl ?_)
        | (refine WO.no rfl ?_; simp only [pt])
        | (refine WO.op (by intro; simp only [go_sem, Zz.look, fillP, over, cut, c0, c1, c2, decide_false]; rfl) ?_; simp only [pt])
        | (refine WO.opN (by intro; simp only [go_sem, Zz.look, storeAt, over, setBlk, cut, c0, c1, c2, decide_false]; rfl) ?_))
      refine WO.nil ?_
      simp only [Then]
      refine WC.no (by simp only [go_sem]) (WC.skip ?_)
      simp only [Then]
      refine WC.seq (WC.region ?_)
      repeat (first
        | (refine WO.yes rfl ?_)
        | (refine WO.no rfl ?_; simp only [pt])
        | (refine WO.op (by intro; simp only [go_sem, Zz.look, fillP, over, cut]; rfl) ?_; simp only [pt])
        | (refine WO.opN (by intro; simp only [go_sem, Zz.look, storeAt, over, setBlk, cut]; rfl) ?_))
      refine WO.op (by intro; rw [ev_append]; exact happ) ?_
      simp only [pt]
      repeat (first
        | (refine WO.yes rfl ?_)
        | (refine WO.no rfl ?_; simp only [pt])
        | (refine WO.op (by intro; simp only [go_sem, Zz.look, fillP, over, cut]; rfl) ?_; simp only [pt])
        | (refine WO.opN (by intro; simp only [go_sem, Zz.look, storeAt, over, setBlk, cut]; rfl) ?_))
      refine WO.nil ?_
      simp only [Then]
      refine WC.seq (WC.seq (WC.region ?_))
      repeat (first
        | (refine WO.yes rfl ?_)
        | (refine WO.no rfl ?_; simp only [pt])
        | (refine WO.op (by intro; simp only [go_sem, Zz.look, fillP, over, cut]; rfl) ?_; simp only [pt])
        | (refine WO.opN (by intro; simp only [go_sem, Zz.look, storeAt, over, setBlk, cut]; rfl) ?_))
      try (
        refine WO.op (by intro; exact ev_lenS rfl) ?_
        simp only [pt])
      repeat (first
        | (refine WO.yes rfl ?_)
        | (refine WO.no rfl ?_; simp only [pt])
        | (refine WO.op (by intro; simp only [go_sem, Zz.look, fillP, over, cut, cb]; rfl) ?_; simp only [pt])
        | (refine WO.opN (by intro; simp only [go_sem, Zz.look, storeAt, over, setBlk, cut, cb]; rfl) ?_))
      refine WO.nil ?_
      simp only [Then]
      refine WC.no (by simp only [go_sem, cb]) (WC.skip ?_)
      simp only [Then]
      refine WC.seq (WC.region ?_)
      repeat (first
        | (refine WO.yes rfl ?_)
        | (refine WO.no rfl ?_; simp only [pt])
        | (refine WO.op (by intro; simp only [go_sem, Zz.look, fillP, over, cut]; rfl) ?_; simp only [pt])
        | (refine WO.opN (by intro; simp only [go_sem, Zz.look, storeAt, over, setBlk, cut]; rfl) ?_))
      try (
        refine WO.op (by intro; exact ev_lenS rfl) ?_
        simp only [pt])
      repeat (first
        | (refine WO.yes rfl ?_)
        | (refine WO.no rfl ?_; simp only [pt])
        | (refine WO.op (by intro; simp only [go_sem, Zz.look, fillP, over, cut]; rfl) ?_; simp only [pt])
        | (refine WO.opN (by intro; simp only [go_sem, Zz.look, storeAt, over, setBlk, cut]; rfl) ?_))
      refine WO.nil ?_
      simp only [Then]
      refine WC.ret ⟨_, rfl, ?_⟩
      simp [oneRes, gt, resV, resA, resC, resT, resL, Zz.look, cut, flatAV, St.mem, List.take_of_length_le, AV.cells, evRes, hl0]

end Go.Proofs.Ytpddngcgajjacaa

set_option linter.unusedSimpArgs false
set_option linter.unusedVariables false
namespace Go.Proofs.Ytpddngcgajjacaa
open Go.Zz


theorem rout_bad {Γ : Env} (h27 : Spec27 Γ) {s : Int} {q : AV} {qs : List Int} (hs : Γ.spec 15 = none) (hf : Γ.fn 15 = some ir15) (hq : IntS q qs) (h1 : I64 s) (hmax : qs.length < 9223372036854775808)
    (hb : ¬ (0 ≤ s ∧ s ≤ 1000 ∧ (qs.length : Int) ≤ 1000 - s)) :
    WF Γ (.func 15 [] []) [.agg [.int .i64 s, q]] ⟨[], []⟩ fun y m' => resV m'.heap y = some (.tuple [.snil, .int .i64 1]) := by
  obtain ⟨S, hS, h27⟩ := h27
  have h27' : ∀ m, S [.agg [.int .i64 s, q]] m = some (.bool false, m) := fun m => by rw [h27 s q qs m hq h1 hmax, decide_eq_false hb]
  refine WF.fn hs hf (by show 1 ≤ 36; decide) ?_
  unfold ir15
  simp only [padTo, List.replicate, List.nil_append, List.append_nil, List.cons_append]
  refine WC.seq (WC.region ?_)
  repeat (first
    | (refine WO.yes rfl ?_)
    | (refine WO.no rfl ?_; simp only [pt])
    | (refine WO.op (by intro; simp only [go_sem, Zz.look, fillP, over, cut]; rfl) ?_; simp only [pt])
    | (refine WO.opN (by intro; simp only [go_sem, Zz.look, storeAt, over, setBlk, cut]; rfl) ?_))
  refine WO.nil ?_
  simp only [Then]
  refine WC.seq (WC.region ?_)
  refine WO.op (by intro; simp only [go_sem, Zz.look, cut, List.drop_zero]; rfl) ?_
  simp only [pt]
  refine WO.call rfl rfl (WF.spec hS (h27' _) ?_)
  simp only [pt]
  repeat (first
    | (refine WO.yes rfl ?_)
    | (refine WO.no rfl ?_; simp only [pt])
    | (refine WO.op (by intro; simp only [go_sem, Zz.look, fillP, over, cut]; rfl) ?_; simp only [pt])
    | (refine WO.opN (by intro; simp only [go_sem, Zz.look, storeAt, over, setBlk, cut]; rfl) ?_))
  refine WO.nil ?_
  simp only [Then]
  refine WC.seq (WC.seq (WC.region ?_))
  repeat (first
    | (refine WO.yes rfl ?_)
    | (refine WO.no rfl ?_; simp only [pt])
    | (refine WO.op (by intro; simp only [go_sem, Zz.look, fillP, over, cut]; rfl) ?_; simp only [pt])
    | (refine WO.opN (by intro; simp only [go_sem, Zz.look, storeAt, over, setBlk, cut]; rfl) ?_))
  refine WO.nil ?_
  simp only [Then]
  refine WC.yes rfl (WC.seq (WC.region ?_))
  repeat (first
    | (refine WO.yes rfl ?_)
    | (refine WO.no rfl ?_; simp only [pt])
    | (refine WO.op (by intro; simp only [go_sem, Zz.look, fillP, over, cut]; rfl) ?_; simp only [pt])
    | (refine WO.opN (by intro; simp only [go_sem, Zz.look, storeAt, over, setBlk, cut]; rfl) ?_))
  refine WO.nil ?_
  simp only [Then]
  exact WC.ret ⟨_, rfl, rfl⟩


theorem rout_good0 {Γ : Env} {s : Int} {q : AV} {S : List AV → Mem → Option (AV × Mem)} (hS : Γ.spec 27 = some S) (hs : Γ.spec 15 = none) (hf : Γ.fn 15 = some ir15) (hq : IntS q [])
    (h27' : ∀ m, S [.agg [.int .i64 s, q]] m = some (.bool true, m)) (w1 : IntKind.wrap .i64 (0 + 1) = 1) (w2 : IntKind.wrap .i64 (1 + 1) = 2) (w3 : IntKind.wrap .i64 (2 + 1) = 3) (w4 : IntKind.wrap .i64 (3 + 1) = 4)
    (s0 : IntKind.wrap .i64 (s + 0) = s) (s1 : IntKind.wrap .i64 (s + 1) = s + 1) (s2 : IntKind.wrap .i64 (s + 2) = s + 1 + 1) (s3 : IntKind.wrap .i64 (s + 3) = s + 1 + 1 + 1) :
    WF Γ (.func 15 [] []) [.agg [.int .i64 s, q]] ⟨[], []⟩ fun y m' => resV m'.heap y = some (.tuple [.snil, .int .i64 0]) := by
  have kend : ¬ ((0 : Int) < (([] : List Int).length : Int)) := by simp
  refine WF.fn hs hf (by show 1 ≤ 36; decide) ?_
  unfold ir15
  simp only [padTo, List.replicate, List.nil_append, List.append_nil, List.cons_append]
  refine WC.seq (WC.region ?_)
  repeat (first
    | (refine WO.yes rfl ?_)
    | (refine WO.no rfl ?_; simp only [pt])
    | (refine WO.op (by intro; simp only [go_sem, Zz.look, fillP, over, cut]; rfl) ?_; simp only [pt])
    | (refine WO.opN (by intro; simp only [go_sem, Zz.look, storeAt, over, setBlk, cut]; rfl) ?_))
  refine WO.nil ?_
  simp only [Then]
  refine WC.seq (WC.region ?_)
  refine WO.op (by intro; simp only [go_sem, Zz.look, cut, List.drop_zero]; rfl) ?_
  simp only [pt]
  refine WO.call rfl rfl (WF.spec hS (h27' _) ?_)
  simp only [pt]
  repeat (first
    | (refine WO.yes rfl ?_)
    | (refine WO.no rfl ?_; simp only [pt])
    | (refine WO.op (by intro; simp only [go_sem, Zz.look, fillP, over, cut]; rfl) ?_; simp only [pt])
    | (refine WO.opN (by intro; simp only [go_sem, Zz.look, storeAt, over, setBlk, cut]; rfl) ?_))
  refine WO.nil ?_
  simp only [Then]
  refine WC.seq (WC.seq (WC.region ?_))
  repeat (first
    | (refine WO.yes rfl ?_)
    | (refine WO.no rfl ?_; simp only [pt])
    | (refine WO.op (by intro; simp only [go_sem, Zz.look, fillP, over, cut]; rfl) ?_; simp only [pt])
    | (refine WO.opN (by intro; simp only [go_sem, Zz.look, storeAt, over, setBlk, cut]; rfl) ?_))
  refine WO.nil ?_
  simp only [Then]
  refine WC.no rfl (WC.skip ?_)
  simp only [Then]
  refine WC.seq (WC.region ?_)
  repeat (first
    | (refine WO.yes rfl ?_)
    | (refine WO.no rfl ?_; simp only [pt])
    | (refine WO.op (by intro; simp only [go_sem, Zz.look, fillP, over, cut]; rfl) ?_; simp only [pt])
    | (refine WO.opN (by intro; simp only [go_sem, Zz.look, storeAt, over, setBlk, cut]; rfl) ?_))
  refine WO.nil ?_
  simp only [Then]
  refine WC.seq (WC.seq (WC.region ?_))
  repeat (first
    | (refine WO.yes rfl ?_)
    | (refine WO.no rfl ?_; simp only [pt])
    | (refine WO.op (by intro; simp only [go_sem, Zz.look, fillP, over, cut]; rfl) ?_; simp only [pt])
    | (refine WO.opN (by intro; simp only [go_sem, Zz.look, storeAt, over, setBlk, cut]; rfl) ?_))
  refine WO.nil ?_
  simp only [Then]
  refine WC.block ?_
  refine WC.loop (WC.seq (WC.seq (WC.region ?_)))
  repeat (first
    | (refine WO.yes rfl ?_)
    | (refine WO.no rfl ?_; simp only [pt])
    | (refine WO.op (by intro; simp only [go_sem, Zz.look, fillP, over, cut]; rfl) ?_; simp only [pt])
    | (refine WO.opN (by intro; simp only [go_sem, Zz.look, storeAt, over, setBlk, cut]; rfl) ?_))
  refine WO.op (by intro; exact ev_lenS (n := ([] : List Int).length) (by simp only [go_sem]; exact hq.len)) ?_
  simp only [pt]
  repeat (first
    | (refine WO.yes rfl ?_)
    | (refine WO.no rfl ?_; simp only [pt])
    | (refine WO.op (by intro; simp only [go_sem, Zz.look, fillP, over, cut, kend, decide_false, decide_true]; rfl) ?_; simp only [pt])
    | (refine WO.opN (by intro; simp only [go_sem, Zz.look, storeAt, over, setBlk, cut, kend, decide_false, decide_true]; rfl) ?_))
  refine WO.nil ?_
  simp only [Then, Out]
  refine WC.no (by first | rfl | simp only [go_sem, kend]) (WC.exit ?_)
  simp only [Then, Out, if_true]
  refine WC.seq (WC.region ?_)
  repeat (first
    | (refine WO.yes rfl ?_)
    | (refine WO.no rfl ?_; simp only [pt])
    | (refine WO.op (by intro; simp only [go_sem, Zz.look, fillP, over, cut]; rfl) ?_; simp only [pt])
    | (refine WO.opN (by intro; simp only [go_sem, Zz.look, storeAt, over, setBlk, cut]; rfl) ?_))
  refine WO.nil ?_
  simp only [Then]
  exact WC.ret ⟨_, rfl, rfl⟩

theorem rout_good1 {Γ : Env} {s : Int} {q : AV} {a : Int} {S : List AV → Mem → Option (AV × Mem)} (hS : Γ.spec 27 = some S) (hs : Γ.spec 15 = none) (hf : Γ.fn 15 = some ir15) (hq : IntS q [a])
    (h27' : ∀ m, S [.agg [.int .i64 s, q]] m = some (.bool true, m)) (w1 : IntKind.wrap .i64 (0 + 1) = 1) (w2 : IntKind.wrap .i64 (1 + 1) = 2) (w3 : IntKind.wrap .i64 (2 + 1) = 3) (w4 : IntKind.wrap .i64 (3 + 1) = 4)
    (s0 : IntKind.wrap .i64 (s + 0) = s) (s1 : IntKind.wrap .i64 (s + 1) = s + 1) (s2 : IntKind.wrap .i64 (s + 2) = s + 1 + 1) (s3 : IntKind.wrap .i64 (s + 3) = s + 1 + 1 + 1) :
    WF Γ (.func 15 [] []) [.agg [.int .i64 s, q]] ⟨[], []⟩ fun y m' => resV m'.heap y = some (.tuple [(.sval false 1 ((outs s [a]).flatMap pk)), .int .i64 0]) := by
  have x0 := hq.at (i := 0) (by simp)
  have d0 := drop_at (xs := [a]) (i := 0) (by simp)
  simp only [List.getElem_cons_zero, List.getElem_cons_succ] at d0
  have k0 : ((0 : Int) < (([a] : List Int).length : Int))  := by simp; try omega
  simp only [List.length_cons, List.length_nil] at k0
  have kend : ¬ ((1 : Int) < (([a] : List Int).length : Int)) := by simp
  refine WF.fn hs hf (by show 1 ≤ 36; decide) ?_
  unfold ir15
  simp only [padTo, List.replicate, List.nil_append, List.append_nil, List.cons_append]
  refine WC.seq (WC.region ?_)
  repeat (first
    | (refine WO.yes rfl ?_)
    | (refine WO.no rfl ?_; simp only [pt])
    | (refine WO.op (by intro; simp only [go_sem, Zz.look, fillP, over, cut]; rfl) ?_; simp only [pt])
    | (refine WO.opN (by intro; simp only [go_sem, Zz.look, storeAt, over, setBlk, cut]; rfl) ?_))
  refine WO.nil ?_
  simp only [Then]
  refine WC.seq (WC.region ?_)
  refine WO.op (by intro; simp only [go_sem, Zz.look, cut, List.drop_zero]; rfl) ?_
  simp only [pt]
  refine WO.call rfl rfl (WF.spec hS (h27' _) ?_)
  simp only [pt]
  repeat (first
    | (refine WO.yes rfl ?_)
    | (refine WO.no rfl ?_; simp only [pt])
    | (refine WO.op (by intro; simp only [go_sem, Zz.look, fillP, over, cut]; rfl) ?_; simp only [pt])
    | (refine WO.opN (by intro; simp only [go_sem, Zz.look, storeAt, over, setBlk, cut]; rfl) ?_))
  refine WO.nil ?_
  simp only [Then]
  refine WC.seq (WC.seq (WC.region ?_))
  repeat (first
    | (refine WO.yes rfl ?_)
    | (refine WO.no rfl ?_; simp only [pt])
    | (refine WO.op (by intro; simp only [go_sem, Zz.look, fillP, over, cut]; rfl) ?_; simp only [pt])
    | (refine WO.opN (by intro; simp only [go_sem, Zz.look, storeAt, over, setBlk, cut]; rfl) ?_))
  refine WO.nil ?_
  simp only [Then]
  refine WC.no rfl (WC.skip ?_)
  simp only [Then]
  refine WC.seq (WC.region ?_)
  repeat (first
    | (refine WO.yes rfl ?_)
    | (refine WO.no rfl ?_; simp only [pt])
    | (refine WO.op (by intro; simp only [go_sem, Zz.look, fillP, over, cut]; rfl) ?_; simp only [pt])
    | (refine WO.opN (by intro; simp only [go_sem, Zz.look, storeAt, over, setBlk, cut]; rfl) ?_))
  refine WO.nil ?_
  simp only [Then]
  refine WC.seq (WC.seq (WC.region ?_))
  repeat (first
    | (refine WO.yes rfl ?_)
    | (refine WO.no rfl ?_; simp only [pt])
    | (refine WO.op (by intro; simp only [go_sem, Zz.look, fillP, over, cut]; rfl) ?_; simp only [pt])
    | (refine WO.opN (by intro; simp only [go_sem, Zz.look, storeAt, over, setBlk, cut]; rfl) ?_))
  refine WO.nil ?_
  simp only [Then]
  refine WC.block ?_
  refine WC.loop (WC.seq (WC.seq (WC.region ?_)))
  repeat (first
    | (refine WO.yes rfl ?_)
    | (refine WO.no rfl ?_; simp only [pt])
    | (refine WO.op (by intro; simp only [go_sem, Zz.look, fillP, over, cut]; rfl) ?_; simp only [pt])
    | (refine WO.opN (by intro; simp only [go_sem, Zz.look, storeAt, over, setBlk, cut]; rfl) ?_))
  refine WO.op (by intro; exact ev_lenS (n := ([a] : List Int).length) (by simp only [go_sem]; exact hq.len)) ?_
  simp only [pt]
  repeat (first
    | (refine WO.yes rfl ?_)
    | (refine WO.no rfl ?_; simp only [pt])
    | (refine WO.op (by intro; simp only [go_sem, Zz.look, fillP, over, cut, k0, decide_true]; rfl) ?_; simp only [pt])
    | (refine WO.opN (by intro; simp only [go_sem, Zz.look, storeAt, over, setBlk, cut, k0, decide_true]; rfl) ?_))
  try (
    refine WO.yes rfl ?_
    refine WO.op (by intro; rfl) ?_
    simp only [pt])
  repeat (first
    | (refine WO.yes rfl ?_)
    | (refine WO.no rfl ?_; simp only [pt])
    | (refine WO.op (by intro; simp only [go_sem, Zz.look, fillP, over, cut]; rfl) ?_; simp only [pt])
    | (refine WO.opN (by intro; simp only [go_sem, Zz.look, storeAt, over, setBlk, cut]; rfl) ?_))
  refine WO.nil ?_
  simp only [Then, Out]
  refine WC.yes (by first | rfl | simp only [go_sem, k0, decide_true]) (WC.skip ?_)
  simp only [Then, Out]
  refine WC.seq (WC.block (WC.draw (WD.calmN 12 rfl ?_)))
  simp only [List.take, List.drop, List.map]
  repeat (first
    | (refine WO.yes rfl ?_)
    | (refine WO.no rfl ?_; simp only [pt])
    | (refine WO.op (by intro; simp only [go_sem, Zz.look, fillP, over, cut, w1, w2, w3, w4, s0, s1, s2, s3]; rfl) ?_; simp only [pt])
    | (refine WO.opN (by intro; simp only [go_sem, Zz.look, storeAt, over, setBlk, cut, w1, w2, w3, w4, s0, s1, s2, s3]; rfl) ?_))
  refine WO.op (by intro; rw [ev_indexAddr]; exact (congrArg (Option.map _) x0).trans rfl) ?_
  simp only [pt]
  repeat (first
    | (refine WO.yes rfl ?_)
    | (refine WO.no rfl ?_; simp only [pt])
    | (refine WO.op (by intro; simp only [go_sem, Zz.look, fillP, over, cut, d0]; rfl) ?_; simp only [pt])
    | (refine WO.opN (by intro; simp only [go_sem, Zz.look, storeAt, over, setBlk, cut, d0]; rfl) ?_))
  refine WO.nil ?_
  intro seen
  refine WD.plain rfl rfl (by intro; rw [ev_append]; rfl) rfl ?_
  intro seen
  simp only [St.put, pt]
  refine WD.free rfl (by intro; simp only [go_sem]; rfl) ?_
  simp only [pt]
  refine WD.nil ?_
  simp only [Then, Out]
  refine WC.region ?_
  repeat (first
    | (refine WO.yes rfl ?_)
    | (refine WO.no rfl ?_; simp only [pt])
    | (refine WO.op (by intro; simp only [go_sem, Zz.look, fillP, over, cut, w1, w2, w3, w4]; rfl) ?_; simp only [pt])
    | (refine WO.opN (by intro; simp only [go_sem, Zz.look, storeAt, over, setBlk, cut, w1, w2, w3, w4]; rfl) ?_))
  refine WO.nil ?_
  simp only [Then, Out]
  refine WC.loop (WC.seq (WC.seq (WC.region ?_)))
  repeat (first
    | (refine WO.yes rfl ?_)
    | (refine WO.no rfl ?_; simp only [pt])
    | (refine WO.op (by intro; simp only [go_sem, Zz.look, fillP, over, cut]; rfl) ?_; simp only [pt])
    | (refine WO.opN (by intro; simp only [go_sem, Zz.look, storeAt, over, setBlk, cut]; rfl) ?_))
  refine WO.op (by intro; exact ev_lenS (n := ([a] : List Int).length) (by simp only [go_sem]; exact hq.len)) ?_
  simp only [pt]
  repeat (first
    | (refine WO.yes rfl ?_)
    | (refine WO.no rfl ?_; simp only [pt])
    | (refine WO.op (by intro; simp only [go_sem, Zz.look, fillP, over, cut, kend, decide_false, decide_true]; rfl) ?_; simp only [pt])
    | (refine WO.opN (by intro; simp only [go_sem, Zz.look, storeAt, over, setBlk, cut, kend, decide_false, decide_true]; rfl) ?_))
  refine WO.nil ?_
  simp only [Then, Out]
  refine WC.no (by first | rfl | simp only [go_sem, kend]) (WC.exit ?_)
  simp only [Then, Out, if_true]
  refine WC.seq (WC.region ?_)
  repeat (first
    | (refine WO.yes rfl ?_)
    | (refine WO.no rfl ?_; simp only [pt])
    | (refine WO.op (by intro; simp only [go_sem, Zz.look, fillP, over, cut]; rfl) ?_; simp only [pt])
    | (refine WO.opN (by intro; simp only [go_sem, Zz.look, storeAt, over, setBlk, cut]; rfl) ?_))
  refine WO.nil ?_
  simp only [Then]
  exact WC.ret ⟨_, rfl, rfl⟩

theorem rout_good2 {Γ : Env} {s : Int} {q : AV} {a b : Int} {S : List AV → Mem → Option (AV × Mem)} (hS : Γ.spec 27 = some S) (hs : Γ.spec 15 = none) (hf : Γ.fn 15 = some ir15) (hq : IntS q [a, b])
    (h27' : ∀ m, S [.agg [.int .i64 s, q]] m = some (.bool true, m)) (w1 : IntKind.wrap .i64 (0 + 1) = 1) (w2 : IntKind.wrap .i64 (1 + 1) = 2) (w3 : IntKind.wrap .i64 (2 + 1) = 3) (w4 : IntKind.wrap .i64 (3 + 1) = 4)
    (s0 : IntKind.wrap .i64 (s + 0) = s) (s1 : IntKind.wrap .i64 (s + 1) = s + 1) (s2 : IntKind.wrap .i64 (s + 2) = s + 1 + 1) (s3 : IntKind.wrap .i64 (s + 3) = s + 1 + 1 + 1) :
    WF Γ (.func 15 [] []) [.agg [.int .i64 s, q]] ⟨[], []⟩ fun y m' => resV m'.heap y = some (.tuple [(.sval false 2 ((outs s [a, b]).flatMap pk)), .int .i64 0]) := by
  have x0 := hq.at (i := 0) (by simp)
  have d0 := drop_at (xs := [a, b]) (i := 0) (by simp)
  simp only [List.getElem_cons_zero, List.getElem_cons_succ] at d0
  have k0 : ((0 : Int) < (([a, b] : List Int).length : Int))  := by simp; try omega
  simp only [List.length_cons, List.length_nil] at k0
  have x1 := hq.at (i := 1) (by simp)
  have d1 := drop_at (xs := [a, b]) (i := 1) (by simp)
  simp only [List.getElem_cons_zero, List.getElem_cons_succ] at d1
  have k1 : ((1 : Int) < (([a, b] : List Int).length : Int))  := by simp; try omega
  simp only [List.length_cons, List.length_nil] at k1
  have kend : ¬ ((2 : Int) < (([a, b] : List Int).length : Int)) := by simp
  refine WF.fn hs hf (by show 1 ≤ 36; decide) ?_
  unfold ir15
  simp only [padTo, List.replicate, List.nil_append, List.append_nil, List.cons_append]
  refine WC.seq (WC.region ?_)
  repeat (first
    | (refine WO.yes rfl ?_)
    | (refine WO.no rfl ?_; simp only [pt])
    | (refine WO.op (by intro; simp only [go_sem, Zz.look, fillP, over, cut]; rfl) ?_; simp only [pt])
    | (refine WO.opN (by intro; simp only [go_sem, Zz.look, storeAt, over, setBlk, cut]; rfl) ?_))
  refine WO.nil ?_
  simp only [Then]
  refine WC.seq (WC.region ?_)
  refine WO.op (by intro; simp only [go_sem, Zz.look, cut, List.drop_zero]; rfl) ?_
  simp only [pt]
  refine WO.call rfl rfl (WF.spec hS (h27' _) ?_)
  simp only [pt]
  repeat (first
    | (refine WO.yes rfl ?_)
    | (refine WO.no rfl ?_; simp only [pt])
    | (refine WO.op (by intro; simp only [go_sem, Zz.look, fillP, over, cut]; rfl) ?_; simp only [pt])
    | (refine WO.opN (by intro; simp only [go_sem, Zz.look, storeAt, over, setBlk, cut]; rfl) ?_))
  refine WO.nil ?_
  simp only [Then]
  refine WC.seq (WC.seq (WC.region ?_))
  repeat (first
    | (refine WO.yes rfl ?_)
    | (refine WO.no rfl ?_; simp only [pt])
    | (refine WO.op (by intro; simp only [go_sem, Zz.look, fillP, over, cut]; rfl) ?_; simp only [pt])
    | (refine WO.opN (by intro; simp only [go_sem, Zz.look, storeAt, over, setBlk, cut]; rfl) ?_))
  refine WO.nil ?_
  simp only [Then]
  refine WC.no rfl (WC.skip ?_)
  simp only [Then]
  refine WC.seq (WC.region ?_)
  repeat (first
    | (refine WO.yes rfl ?_)
    | (refine WO.no rfl ?_; simp only [pt])
    | (refine WO.op (by intro; simp only [go_sem, Zz.look, fillP, over, cut]; rfl) ?_; simp only [pt])
    | (refine WO.opN (by intro; simp only [go_sem, Zz.look, storeAt, over, setBlk, cut]; rfl) ?_))
  refine WO.nil ?_
  simp only [Then]
  refine WC.seq (WC.seq (WC.region ?_))
  repeat (first
    | (refine WO.yes rfl ?_)
    | (refine WO.no rfl ?_; simp only [pt])
    | (refine WO.op (by intro; simp only [go_sem, Zz.look, fillP, over, cut]; rfl) ?_; simp only [pt])
    | (refine WO.opN (by intro; simp only [go_sem, Zz.look, storeAt, over, setBlk, cut]; rfl) ?_))
  refine WO.nil ?_
  simp only [Then]
  refine WC.block ?_
  refine WC.loop (WC.seq (WC.seq (WC.region ?_)))
  repeat (first
    | (refine WO.yes rfl ?_)
    | (refine WO.no rfl ?_; simp only [pt])
    | (refine WO.op (by intro; simp only [go_sem, Zz.look, fillP, over, cut]; rfl) ?_; simp only [pt])
    | (refine WO.opN (by intro; simp only [go_sem, Zz.look, storeAt, over, setBlk, cut]; rfl) ?_))
  refine WO.op (by intro; exact ev_lenS (n := ([a, b] : List Int).length) (by simp only [go_sem]; exact hq.len)) ?_
  simp only [pt]
  repeat (first
    | (refine WO.yes rfl ?_)
    | (refine WO.no rfl ?_; simp only [pt])
    | (refine WO.op (by intro; simp only [go_sem, Zz.look, fillP, over, cut, k0, decide_true]; rfl) ?_; simp only [pt])
    | (refine WO.opN (by intro; simp only [go_sem, Zz.look, storeAt, over, setBlk, cut, k0, decide_true]; rfl) ?_))
  try (
    refine WO.yes rfl ?_
    refine WO.op (by intro; rfl) ?_
    simp only [pt])
  repeat (first
    | (refine WO.yes rfl ?_)
    | (refine WO.no rfl ?_; simp only [pt])
    | (refine WO.op (by intro; simp only [go_sem, Zz.look, fillP, over, cut]; rfl) ?_; simp only [pt])
    | (refine WO.opN (by intro; simp only [go_sem, Zz.look, storeAt, over, setBlk, cut]; rfl) ?_))
  refine WO.nil ?_
  simp only [Then, Out]
  refine WC.yes (by first | rfl | simp only [go_sem, k0, decide_true]) (WC.skip ?_)
  simp only [Then, Out]
  refine WC.seq (WC.block (WC.draw (WD.calmN 12 rfl ?_)))
  simp only [List.take, List.drop, List.map]
  repeat (first
    | (refine WO.yes rfl ?_)
    | (refine WO.no rfl ?_; simp only [pt])
    | (refine WO.op (by intro; simp only [go_sem, Zz.look, fillP, over, cut, w1, w2, w3, w4, s0, s1, s2, s3]; rfl) ?_; simp only [pt])
    | (refine WO.opN (by intro; simp only [go_sem, Zz.look, storeAt, over, setBlk, cut, w1, w2, w3, w4, s0, s1, s2, s3]; rfl) ?_))
  refine WO.op (by intro; rw [ev_indexAddr]; exact (congrArg (Option.map _) x0).trans rfl) ?_
  simp only [pt]
  repeat (first
    | (refine WO.yes rfl ?_)
    | (refine WO.no rfl ?_; simp only [pt])
    | (refine WO.op (by intro; simp only [go_sem, Zz.look, fillP, over, cut, d0]; rfl) ?_; simp only [pt])
    | (refine WO.opN (by intro; simp only [go_sem, Zz.look, storeAt, over, setBlk, cut, d0]; rfl) ?_))
  refine WO.nil ?_
  intro seen
  refine WD.plain rfl rfl (by intro; rw [ev_append]; rfl) rfl ?_
  intro seen
  simp only [St.put, pt]
  refine WD.free rfl (by intro; simp only [go_sem]; rfl) ?_
  simp only [pt]
  refine WD.nil ?_
  simp only [Then, Out]
  refine WC.region ?_
  repeat (first
    | (refine WO.yes rfl ?_)
    | (refine WO.no rfl ?_; simp only [pt])
    | (refine WO.op (by intro; simp only [go_sem, Zz.look, fillP, over, cut, w1, w2, w3, w4]; rfl) ?_; simp only [pt])
    | (refine WO.opN (by intro; simp only [go_sem, Zz.look, storeAt, over, setBlk, cut, w1, w2, w3, w4]; rfl) ?_))
  refine WO.nil ?_
  simp only [Then, Out]
  refine WC.loop (WC.seq (WC.seq (WC.region ?_)))
  repeat (first
    | (refine WO.yes rfl ?_)
    | (refine WO.no rfl ?_; simp only [pt])
    | (refine WO.op (by intro; simp only [go_sem, Zz.look, fillP, over, cut]; rfl) ?_; simp only [pt])
    | (refine WO.opN (by intro; simp only [go_sem, Zz.look, storeAt, over, setBlk, cut]; rfl) ?_))
  refine WO.op (by intro; exact ev_lenS (n := ([a, b] : List Int).length) (by simp only [go_sem]; exact hq.len)) ?_
  simp only [pt]
  repeat (first
    | (refine WO.yes rfl ?_)
    | (refine WO.no rfl ?_; simp only [pt])
    | (refine WO.op (by intro; simp only [go_sem, Zz.look, fillP, over, cut, k1, decide_true]; rfl) ?_; simp only [pt])
    | (refine WO.opN (by intro; simp only [go_sem, Zz.look, storeAt, over, setBlk, cut, k1, decide_true]; rfl) ?_))
  try (
    refine WO.yes rfl ?_
    refine WO.op (by intro; rfl) ?_
    simp only [pt])
  repeat (first
    | (refine WO.yes rfl ?_)
    | (refine WO.no rfl ?_; simp only [pt])
    | (refine WO.op (by intro; simp only [go_sem, Zz.look, fillP, over, cut]; rfl) ?_; simp only [pt])
    | (refine WO.opN (by intro; simp only [go_sem, Zz.look, storeAt, over, setBlk, cut]; rfl) ?_))
  refine WO.nil ?_
  simp only [Then, Out]
  refine WC.yes (by first | rfl | simp only [go_sem, k1, decide_true]) (WC.skip ?_)
  simp only [Then, Out]
  refine WC.seq (WC.block (WC.draw (WD.calmN 12 rfl ?_)))
  simp only [List.take, List.drop, List.map]
  repeat (first
    | (refine WO.yes rfl ?_)
    | (refine WO.no rfl ?_; simp only [pt])
    | (refine WO.op (by intro; simp only [go_sem, Zz.look, fillP, over, cut, w1, w2, w3, w4, s0, s1, s2, s3]; rfl) ?_; simp only [pt])
    | (refine WO.opN (by intro; simp only [go_sem, Zz.look, storeAt, over, setBlk, cut, w1, w2, w3, w4, s0, s1, s2, s3]; rfl) ?_))
  refine WO.op (by intro; rw [ev_indexAddr]; exact (congrArg (Option.map _) x1).trans rfl) ?_
  simp only [pt]
  repeat (first
    | (refine WO.yes rfl ?_)
    | (refine WO.no rfl ?_; simp only [pt])
    | (refine WO.op (by intro; simp only [go_sem, Zz.look, fillP, over, cut, d1]; rfl) ?_; simp only [pt])
    | (refine WO.opN (by intro; simp only [go_sem, Zz.look, storeAt, over, setBlk, cut, d1]; rfl) ?_))
  refine WO.nil ?_
  intro seen
  refine WD.plain rfl rfl (by intro; rw [ev_append]; rfl) rfl ?_
  intro seen
  simp only [St.put, pt]
  refine WD.free rfl (by intro; simp only [go_sem]; rfl) ?_
  simp only [pt]
  refine WD.nil ?_
  simp only [Then, Out]
  refine WC.region ?_
  repeat (first
    | (refine WO.yes rfl ?_)
    | (refine WO.no rfl ?_; simp only [pt])
    | (refine WO.op (by intro; simp only [go_sem, Zz.look, fillP, over, cut, w1, w2, w3, w4]; rfl) ?_; simp only [pt])
    | (refine WO.opN (by intro; simp only [go_sem, Zz.look, storeAt, over, setBlk, cut, w1, w2, w3, w4]; rfl) ?_))
  refine WO.nil ?_
  simp only [Then, Out]
  refine WC.loop (WC.seq (WC.seq (WC.region ?_)))
  repeat (first
    | (refine WO.yes rfl ?_)
    | (refine WO.no rfl ?_; simp only [pt])
    | (refine WO.op (by intro; simp only [go_sem, Zz.look, fillP, over, cut]; rfl) ?_; simp only [pt])
    | (refine WO.opN (by intro; simp only [go_sem, Zz.look, storeAt, over, setBlk, cut]; rfl) ?_))
  refine WO.op (by intro; exact ev_lenS (n := ([a, b] : List Int).length) (by simp only [go_sem]; exact hq.len)) ?_
  simp only [pt]
  repeat (first
    | (refine WO.yes rfl ?_)
    | (refine WO.no rfl ?_; simp only [pt])
    | (refine WO.op (by intro; simp only [go_sem, Zz.look, fillP, over, cut, kend, decide_false, decide_true]; rfl) ?_; simp only [pt])
    | (refine WO.opN (by intro; simp only [go_sem, Zz.look, storeAt, over, setBlk, cut, kend, decide_false, decide_true]; rfl) ?_))
  refine WO.nil ?_
  simp only [Then, Out]
  refine WC.no (by first | rfl | simp only [go_sem, kend]) (WC.exit ?_)
  simp only [Then, Out, if_true]
  refine WC.seq (WC.region ?_)
  repeat (first
    | (refine WO.yes rfl ?_)
    | (refine WO.no rfl ?_; simp only [pt])
    | (refine WO.op (by intro; simp only [go_sem, Zz.look, fillP, over, cut]; rfl) ?_; simp only [pt])
    | (refine WO.opN (by intro; simp only [go_sem, Zz.look, storeAt, over, setBlk, cut]; rfl) ?_))
  refine WO.nil ?_
  simp only [Then]
  exact WC.ret ⟨_, rfl, rfl⟩

theorem rout_good3 {Γ : Env} {s : Int} {q : AV} {a b c : Int} {S : List AV → Mem → Option (AV × Mem)} (hS : Γ.spec 27 = some S) (hs : Γ.spec 15 = none) (hf : Γ.fn 15 = some ir15) (hq : IntS q [a, b, c])
    (h27' : ∀ m, S [.agg [.int .i64 s, q]] m = some (.bool true, m)) (w1 : IntKind.wrap .i64 (0 + 1) = 1) (w2 : IntKind.wrap .i64 (1 + 1) = 2) (w3 : IntKind.wrap .i64 (2 + 1) = 3) (w4 : IntKind.wrap .i64 (3 + 1) = 4)
    (s0 : IntKind.wrap .i64 (s + 0) = s) (s1 : IntKind.wrap .i64 (s + 1) = s + 1) (s2 : IntKind.wrap .i64 (s + 2) = s + 1 + 1) (s3 : IntKind.wrap .i64 (s + 3) = s + 1 + 1 + 1) :
    WF Γ (.func 15 [] []) [.agg [.int .i64 s, q]] ⟨[], []⟩ fun y m' => resV m'.heap y = some (.tuple [(.sval false 3 ((outs s [a, b, c]).flatMap pk)), .int .i64 0]) := by
  have x0 := hq.at (i := 0) (by simp)
  have d0 := drop_at (xs := [a, b, c]) (i := 0) (by simp)
  simp only [List.getElem_cons_zero, List.getElem_cons_succ] at d0
  have k0 : ((0 : Int) < (([a, b, c] : List Int).length : Int))  := by simp; try omega
  simp only [List.length_cons, List.length_nil] at k0
  have x1 := hq.at (i := 1) (by simp)
  have d1 := drop_at (xs := [a, b, c]) (i := 1) (by simp)
  simp only [List.getElem_cons_zero, List.getElem_cons_succ] at d1
  have k1 : ((1 : Int) < (([a, b, c] : List Int).length : Int))  := by simp; try omega
  simp only [List.length_cons, List.length_nil] at k1
  have x2 := hq.at (i := 2) (by simp)
  have d2 := drop_at (xs := [a, b, c]) (i := 2) (by simp)
  simp only [List.getElem_cons_zero, List.getElem_cons_succ] at d2
  have k2 : ((2 : Int) < (([a, b, c] : List Int).length : Int))  := by simp; try omega
  simp only [List.length_cons, List.length_nil] at k2
  have kend : ¬ ((3 : Int) < (([a, b, c] : List Int).length : Int)) := by simp
  refine WF.fn hs hf (by show 1 ≤ 36; decide) ?_
  unfold ir15
  simp only [padTo, List.replicate, List.nil_append, List.append_nil, List.cons_append]
  refine WC.seq (WC.region ?_)
  repeat (first
    | (refine WO.yes rfl ?_)
    | (refine WO.no rfl ?_; simp only [pt])
    | (refine WO.op (by intro; simp only [go_sem, Zz.look, fillP, over, cut]; rfl) ?_; simp only [pt])
    | (refine WO.opN (by intro; simp only [go_sem, Zz.look, storeAt, over, setBlk, cut]; rfl) ?_))
  refine WO.nil ?_
  simp only [Then]
  refine WC.seq (WC.region ?_)
  refine WO.op (by intro; simp only [go_sem, Zz.look, cut, List.drop_zero]; rfl) ?_
  simp only [pt]
  refine WO.call rfl rfl (WF.spec hS (h27' _) ?_)
  simp only [pt]
  repeat (first
    | (refine WO.yes rfl ?_)
    | (refine WO.no rfl ?_; simp only [pt])
    | (refine WO.op (by intro; simp only [go_sem, Zz.look, fillP, over, cut]; rfl) ?_; simp only [pt])
    | (refine WO.opN (by intro; simp only [go_sem, Zz.look, storeAt, over, setBlk, cut]; rfl) ?_))
  refine WO.nil ?_
  simp only [Then]
  refine WC.seq (WC.seq (WC.region ?_))
  repeat (first
    | (refine WO.yes rfl ?_)
    | (refine WO.no rfl ?_; simp only [pt])
    | (refine WO.op (by intro; simp only [go_sem, Zz.look, fillP, over, cut]; rfl) ?_; simp only [pt])
    | (refine WO.opN (by intro; simp only [go_sem, Zz.look, storeAt, over, setBlk, cut]; rfl) ?_))
  refine WO.nil ?_
  simp only [Then]
  refine WC.no rfl (WC.skip ?_)
  simp only [Then]
  refine WC.seq (WC.region ?_)
  repeat (first
    | (refine WO.yes rfl ?_)
    | (refine WO.no rfl ?_; simp only [pt])
    | (refine WO.op (by intro; simp only [go_sem, Zz.look, fillP, over, cut]; rfl) ?_; simp only [pt])
    | (refine WO.opN (by intro; simp only [go_sem, Zz.look, storeAt, over, setBlk, cut]; rfl) ?_))
  refine WO.nil ?_
  simp only [Then]
  refine WC.seq (WC.seq (WC.region ?_))
  repeat (first
    | (refine WO.yes rfl ?_)
    | (refine WO.no rfl ?_; simp only [pt])
    | (refine WO.op (by intro; simp only [go_sem, Zz.look, fillP, over, cut]; rfl) ?_; simp only [pt])
    | (refine WO.opN (by intro; simp only [go_sem, Zz.look, storeAt, over, setBlk, cut]; rfl) ?_))
  refine WO.nil ?_
  simp only [Then]
  refine WC.block ?_
  refine WC.loop (WC.seq (WC.seq (WC.region ?_)))
  repeat (first
    | (refine WO.yes rfl ?_)
    | (refine WO.no rfl ?_; simp only [pt])
    | (refine WO.op (by intro; simp only [go_sem, Zz.look, fillP, over, cut]; rfl) ?_; simp only [pt])
    | (refine WO.opN (by intro; simp only [go_sem, Zz.look, storeAt, over, setBlk, cut]; rfl) ?_))
  refine WO.op (by intro; exact ev_lenS (n := ([a, b, c] : List Int).length) (by simp only [go_sem]; exact hq.len)) ?_
  simp only [pt]
  repeat (first
    | (refine WO.yes rfl ?_)
    | (refine WO.no rfl ?_; simp only [pt])
    | (refine WO.op (by intro; simp only [go_sem, Zz.look, fillP, over, cut, k0, decide_true]; rfl) ?_; simp only [pt])
    | (refine WO.opN (by intro; simp only [go_sem, Zz.look, storeAt, over, setBlk, cut, k0, decide_true]; rfl) ?_))
  try (
    refine WO.yes rfl ?_
    refine WO.op (by intro; rfl) ?_
    simp only [pt])
  repeat (first
    | (refine WO.yes rfl ?_)
    | (refine WO.no rfl ?_; simp only [pt])
    | (refine WO.op (by intro; simp only [go_sem, Zz.look, fillP, over, cut]; rfl) ?_; simp only [pt])
    | (refine WO.opN (by intro; simp only [go_sem, Zz.look, storeAt, over, setBlk, cut]; rfl) ?_))
  refine WO.nil ?_
  simp only [Then, Out]
  refine WC.yes (by first | rfl | simp only [go_sem, k0, decide_true]) (WC.skip ?_)
  simp only [Then, Out]
  refine WC.seq (WC.block (WC.draw (WD.calmN 12 rfl ?_)))
  simp only [List.take, List.drop, List.map]
  repeat (first
    | (refine WO.yes rfl ?_)
    | (refine WO.no rfl ?_; simp only [pt])
    | (refine WO.op (by intro; simp only [go_sem, Zz.look, fillP, over, cut, w1, w2, w3, w4, s0, s1, s2, s3]; rfl) ?_; simp only [pt])
    | (refine WO.opN (by intro; simp only [go_sem, Zz.look, storeAt, over, setBlk, cut, w1, w2, w3, w4, s0, s1, s2, s3]; rfl) ?_))
  refine WO.op (by intro; rw [ev_indexAddr]; exact (congrArg (Option.map _) x0).trans rfl) ?_
  simp only [pt]
  repeat (first
    | (refine WO.yes rfl ?_)
    | (refine WO.no rfl ?_; simp only [pt])
    | (refine WO.op (by intro; simp only [go_sem, Zz.look, fillP, over, cut, d0]; rfl) ?_; simp only [pt])
    | (refine WO.opN (by intro; simp only [go_sem, Zz.look, storeAt, over, setBlk, cut, d0]; rfl) ?_))
  refine WO.nil ?_
  intro seen
  refine WD.plain rfl rfl (by intro; rw [ev_append]; rfl) rfl ?_
  intro seen
  simp only [St.put, pt]
  refine WD.free rfl (by intro; simp only [go_sem]; rfl) ?_
  simp only [pt]
  refine WD.nil ?_
  simp only [Then, Out]
  refine WC.region ?_
  repeat (first
    | (refine WO.yes rfl ?_)
    | (refine WO.no rfl ?_; simp only [pt])
    | (refine WO.op (by intro; simp only [go_sem, Zz.look, fillP, over, cut, w1, w2, w3, w4]; rfl) ?_; simp only [pt])
    | (refine WO.opN (by intro; simp only [go_sem, Zz.look, storeAt, over, setBlk, cut, w1, w2, w3, w4]; rfl) ?_))
  refine WO.nil ?_
  simp only [Then, Out]
  refine WC.loop (WC.seq (WC.seq (WC.region ?_)))
  repeat (first
    | (refine WO.yes rfl ?_)
    | (refine WO.no rfl ?_; simp only [pt])
    | (refine WO.op (by intro; simp only [go_sem, Zz.look, fillP, over, cut]; rfl) ?_; simp only [pt])
    | (refine WO.opN (by intro; simp only [go_sem, Zz.look, storeAt, over, setBlk, cut]; rfl) ?_))
  refine WO.op (by intro; exact ev_lenS (n := ([a, b, c] : List Int).length) (by simp only [go_sem]; exact hq.len)) ?_
  simp only [pt]
  repeat (first
    | (refine WO.yes rfl ?_)
    | (refine WO.no rfl ?_; simp only [pt])
    | (refine WO.op (by intro; simp only [go_sem, Zz.look, fillP, over, cut, k1, decide_true]; rfl) ?_; simp only [pt])
    | (refine WO.opN (by intro; simp only [go_sem, Zz.look, storeAt, over, setBlk, cut, k1, decide_true]; rfl) ?_))
  try (
    refine WO.yes rfl ?_
    refine WO.op (by intro; rfl) ?_
    simp only [pt])
  repeat (first
    | (refine WO.yes rfl ?_)
    | (refine WO.no rfl ?_; simp only [pt])
    | (refine WO.op (by intro; simp only [go_sem, Zz.look, fillP, over, cut]; rfl) ?_; simp only [pt])
    | (refine WO.opN (by intro; simp only [go_sem, Zz.look, storeAt, over, setBlk, cut]; rfl) ?_))
  refine WO.nil ?_
  simp only [Then, Out]
  refine WC.yes (by first | rfl | simp only [go_sem, k1, decide_true]) (WC.skip ?_)
  simp only [Then, Out]
  refine WC.seq (WC.block (WC.draw (WD.calmN 12 rfl ?_)))
  simp only [List.take, List.drop, List.map]
  repeat (first
    | (refine WO.yes rfl ?_)
    | (refine WO.no rfl ?_; simp only [pt])
    | (refine WO.op (by intro; simp only [go_sem, Zz.look, fillP, over, cut, w1, w2, w3, w4, s0, s1, s2, s3]; rfl) ?_; simp only [pt])
    | (refine WO.opN (by intro; simp only [go_sem, Zz.look, storeAt, over, setBlk, cut, w1, w2, w3, w4, s0, s1, s2, s3]; rfl) ?_))
  refine WO.op (by intro; rw [ev_indexAddr]; exact (congrArg (Option.map _) x1).trans rfl) ?_
  simp only [pt]
  repeat (first
    | (refine WO.yes rfl ?_)
    | (refine WO.no rfl ?_; simp only [pt])
    | (refine WO.op (by intro; simp only [go_sem, Zz.look, fillP, over, cut, d1]; rfl) ?_; simp only [pt])
    | (refine WO.opN (by intro; simp only [go_sem, Zz.look, storeAt, over, setBlk, cut, d1]; rfl) ?_))
  refine WO.nil ?_
  intro seen
  refine WD.plain rfl rfl (by intro; rw [ev_append]; rfl) rfl ?_
  intro seen
  simp only [St.put, pt]
  refine WD.free rfl (by intro; simp only [go_sem]; rfl) ?_
  simp only [pt]
  refine WD.nil ?_
  simp only [Then, Out]
  refine WC.region ?_
  repeat (first
    | (refine WO.yes rfl ?_)
    | (refine WO.no rfl ?_; simp only [pt])
    | (refine WO.op (by intro; simp only [go_sem, Zz.look, fillP, over, cut, w1, w2, w3, w4]; rfl) ?_; simp only [pt])
    | (refine WO.opN (by intro; simp only [go_sem, Zz.look, storeAt, over, setBlk, cut, w1, w2, w3, w4]; rfl) ?_))
  refine WO.nil ?_
  simp only [Then, Out]
  refine WC.loop (WC.seq (WC.seq (WC.region ?_)))
  repeat (first
    | (refine WO.yes rfl ?_)
    | (refine WO.no rfl ?_; simp only [pt])
    | (refine WO.op (by intro; simp only [go_sem, Zz.look, fillP, over, cut]; rfl) ?_; simp only [pt])
    | (refine WO.opN (by intro; simp only [go_sem, Zz.look, storeAt, over, setBlk, cut]; rfl) ?_))
  refine WO.op (by intro; exact ev_lenS (n := ([a, b, c] : List Int).length) (by simp only [go_sem]; exact hq.len)) ?_
  simp only [pt]
  repeat (first
    | (refine WO.yes rfl ?_)
    | (refine WO.no rfl ?_; simp only [pt])
    | (refine WO.op (by intro; simp only [go_sem, Zz.look, fillP, over, cut, k2, decide_true]; rfl) ?_; simp only [pt])
    | (refine WO.opN (by intro; simp only [go_sem, Zz.look, storeAt, over, setBlk, cut, k2, decide_true]; rfl) ?_))
  try (
    refine WO.yes rfl ?_
    refine WO.op (by intro; rfl) ?_
    simp only [pt])
  repeat (first
    | (refine WO.yes rfl ?_)
    | (refine WO.no rfl ?_; simp only [pt])
    | (refine WO.op (by intro; simp only [go_sem, Zz.look, fillP, over, cut]; rfl) ?_; simp only [pt])
    | (refine WO.opN (by intro; simp only [go_sem, Zz.look, storeAt, over, setBlk, cut]; rfl) ?_))
  refine WO.nil ?_
  simp only [Then, Out]
  refine WC.yes (by first | rfl | simp only [go_sem, k2, decide_true]) (WC.skip ?_)
  simp only [Then, Out]
  refine WC.seq (WC.block (WC.draw (WD.calmN 12 rfl ?_)))
  simp only [List.take, List.drop, List.map]
  repeat (first
    | (refine WO.yes rfl ?_)
    | (refine WO.no rfl ?_; simp only [pt])
    | (refine WO.op (by intro; simp only [go_sem, Zz.look, fillP, over, cut, w1, w2, w3, w4, s0, s1, s2, s3]; rfl) ?_; simp only [pt])
    | (refine WO.opN (by intro; simp only [go_sem, Zz.look, storeAt, over, setBlk, cut, w1, w2, w3, w4, s0, s1, s2, s3]; rfl) ?_))
  refine WO.op (by intro; rw [ev_indexAddr]; exact (congrArg (Option.map _) x2).trans rfl) ?_
  simp only [pt]
  repeat (first
    | (refine WO.yes rfl ?_)
    | (refine WO.no rfl ?_; simp only [pt])
    | (refine WO.op (by intro; simp only [go_sem, Zz.look, fillP, over, cut, d2]; rfl) ?_; simp only [pt])
    | (refine WO.opN (by intro; simp only [go_sem, Zz.look, storeAt, over, setBlk, cut, d2]; rfl) ?_))
  refine WO.nil ?_
  intro seen
  refine WD.plain rfl rfl (by intro; rw [ev_append]; rfl) rfl ?_
  intro seen
  simp only [St.put, pt]
  refine WD.free rfl (by intro; simp only [go_sem]; rfl) ?_
  simp only [pt]
  refine WD.nil ?_
  simp only [Then, Out]
  refine WC.region ?_
  repeat (first
    | (refine WO.yes rfl ?_)
    | (refine WO.no rfl ?_; simp only [pt])
    | (refine WO.op (by intro; simp only [go_sem, Zz.look, fillP, over, cut, w1, w2, w3, w4]; rfl) ?_; simp only [pt])
    | (refine WO.opN (by intro; simp only [go_sem, Zz.look, storeAt, over, setBlk, cut, w1, w2, w3, w4]; rfl) ?_))
  refine WO.nil ?_
  simp only [Then, Out]
  refine WC.loop (WC.seq (WC.seq (WC.region ?_)))
  repeat (first
    | (refine WO.yes rfl ?_)
    | (refine WO.no rfl ?_; simp only [pt])
    | (refine WO.op (by intro; simp only [go_sem, Zz.look, fillP, over, cut]; rfl) ?_; simp only [pt])
    | (refine WO.opN (by intro; simp only [go_sem, Zz.look, storeAt, over, setBlk, cut]; rfl) ?_))
  refine WO.op (by intro; exact ev_lenS (n := ([a, b, c] : List Int).length) (by simp only [go_sem]; exact hq.len)) ?_
  simp only [pt]
  repeat (first
    | (refine WO.yes rfl ?_)
    | (refine WO.no rfl ?_; simp only [pt])
    | (refine WO.op (by intro; simp only [go_sem, Zz.look, fillP, over, cut, kend, decide_false, decide_true]; rfl) ?_; simp only [pt])
    | (refine WO.opN (by intro; simp only [go_sem, Zz.look, storeAt, over, setBlk, cut, kend, decide_false, decide_true]; rfl) ?_))
  refine WO.nil ?_
  simp only [Then, Out]
  refine WC.no (by first | rfl | simp only [go_sem, kend]) (WC.exit ?_)
  simp only [Then, Out, if_true]
  refine WC.seq (WC.region ?_)
  repeat (first
    | (refine WO.yes rfl ?_)
    | (refine WO.no rfl ?_; simp only [pt])
    | (refine WO.op (by intro; simp only [go_sem, Zz.look, fillP, over, cut]; rfl) ?_; simp only [pt])
    | (refine WO.opN (by intro; simp only [go_sem, Zz.look, storeAt, over, setBlk, cut]; rfl) ?_))
  refine WO.nil ?_
  simp only [Then]
  exact WC.ret ⟨_, rfl, rfl⟩

theorem rout_good4 {Γ : Env} {s : Int} {q : AV} {a b c d : Int} {r : List Int} {S : List AV → Mem → Option (AV × Mem)} (hS : Γ.spec 27 = some S) (hs : Γ.spec 15 = none) (hf : Γ.fn 15 = some ir15) (hq : IntS q (a :: b :: c :: d :: r))
    (h27' : ∀ m, S [.agg [.int .i64 s, q]] m = some (.bool true, m)) (w1 : IntKind.wrap .i64 (0 + 1) = 1) (w2 : IntKind.wrap .i64 (1 + 1) = 2) (w3 : IntKind.wrap .i64 (2 + 1) = 3) (w4 : IntKind.wrap .i64 (3 + 1) = 4)
    (s0 : IntKind.wrap .i64 (s + 0) = s) (s1 : IntKind.wrap .i64 (s + 1) = s + 1) (s2 : IntKind.wrap .i64 (s + 2) = s + 1 + 1) (s3 : IntKind.wrap .i64 (s + 3) = s + 1 + 1 + 1) :
    WF Γ (.func 15 [] []) [.agg [.int .i64 s, q]] ⟨[], []⟩ fun y m' => resV m'.heap y = some (.tuple [(.sval false 4 ((outs s [a, b, c, d]).flatMap pk)), .int .i64 0]) := by
  have x0 := hq.at (i := 0) (by simp)
  have d0 := drop_at (xs := (a :: b :: c :: d :: r)) (i := 0) (by simp)
  simp only [List.getElem_cons_zero, List.getElem_cons_succ] at d0
  have k0 : ((0 : Int) < (((a :: b :: c :: d :: r) : List Int).length : Int))  := by simp; try omega
  simp only [List.length_cons, List.length_nil] at k0
  have x1 := hq.at (i := 1) (by simp)
  have d1 := drop_at (xs := (a :: b :: c :: d :: r)) (i := 1) (by simp)
  simp only [List.getElem_cons_zero, List.getElem_cons_succ] at d1
  have k1 : ((1 : Int) < (((a :: b :: c :: d :: r) : List Int).length : Int))  := by simp; try omega
  simp only [List.length_cons, List.length_nil] at k1
  have x2 := hq.at (i := 2) (by simp)
  have d2 := drop_at (xs := (a :: b :: c :: d :: r)) (i := 2) (by simp)
  simp only [List.getElem_cons_zero, List.getElem_cons_succ] at d2
  have k2 : ((2 : Int) < (((a :: b :: c :: d :: r) : List Int).length : Int))  := by simp; try omega
  simp only [List.length_cons, List.length_nil] at k2
  have x3 := hq.at (i := 3) (by simp)
  have d3 := drop_at (xs := (a :: b :: c :: d :: r)) (i := 3) (by simp)
  simp only [List.getElem_cons_zero, List.getElem_cons_succ] at d3
  have k3 : ((3 : Int) < (((a :: b :: c :: d :: r) : List Int).length : Int))  := by simp; try omega
  simp only [List.length_cons, List.length_nil] at k3
  have kend : ((4 : Int) < 4) = False := by simp
  have kl : ((4 : Int) < ((a :: b :: c :: d :: r).length : Int)) ∨ ¬ ((4 : Int) < ((a :: b :: c :: d :: r).length : Int)) := Classical.em _
  refine WF.fn hs hf (by show 1 ≤ 36; decide) ?_
  unfold ir15
  simp only [padTo, List.replicate, List.nil_append, List.append_nil, List.cons_append]
  refine WC.seq (WC.region ?_)
  repeat (first
    | (refine WO.yes rfl ?_)
    | (refine WO.no rfl ?_; simp only [pt])
    | (refine WO.op (by intro; simp only [go_sem, Zz.look, fillP, over, cut]; rfl) ?_; simp only [pt])
    | (refine WO.opN (by intro; simp only [go_sem, Zz.look, storeAt, over, setBlk, cut]; rfl) ?_))
  refine WO.nil ?_
  simp only [Then]
  refine WC.seq (WC.region ?_)
  refine WO.op (by intro; simp only [go_sem, Zz.look, cut, List.drop_zero]; rfl) ?_
  simp only [pt]
  refine WO.call rfl rfl (WF.spec hS (h27' _) ?_)
  simp only [pt]
  repeat (first
    | (refine WO.yes rfl ?_)
    | (refine WO.no rfl ?_; simp only [pt])
    | (refine WO.op (by intro; simp only [go_sem, Zz.look, fillP, over, cut]; rfl) ?_; simp only [pt])
    | (refine WO.opN (by intro; simp only [go_sem, Zz.look, storeAt, over, setBlk, cut]; rfl) ?_))
  refine WO.nil ?_
  simp only [Then]
  refine WC.seq (WC.seq (WC.region ?_))
  repeat (first
    | (refine WO.yes rfl ?_)
    | (refine WO.no rfl ?_; simp only [pt])
    | (refine WO.op (by intro; simp only [go_sem, Zz.look, fillP, over, cut]; rfl) ?_; simp only [pt])
    | (refine WO.opN (by intro; simp only [go_sem, Zz.look, storeAt, over, setBlk, cut]; rfl) ?_))
  refine WO.nil ?_
  simp only [Then]
  refine WC.no rfl (WC.skip ?_)
  simp only [Then]
  refine WC.seq (WC.region ?_)
  repeat (first
    | (refine WO.yes rfl ?_)
    | (refine WO.no rfl ?_; simp only [pt])
    | (refine WO.op (by intro; simp only [go_sem, Zz.look, fillP, over, cut]; rfl) ?_; simp only [pt])
    | (refine WO.opN (by intro; simp only [go_sem, Zz.look, storeAt, over, setBlk, cut]; rfl) ?_))
  refine WO.nil ?_
  simp only [Then]
  refine WC.seq (WC.seq (WC.region ?_))
  repeat (first
    | (refine WO.yes rfl ?_)
    | (refine WO.no rfl ?_; simp only [pt])
    | (refine WO.op (by intro; simp only [go_sem, Zz.look, fillP, over, cut]; rfl) ?_; simp only [pt])
    | (refine WO.opN (by intro; simp only [go_sem, Zz.look, storeAt, over, setBlk, cut]; rfl) ?_))
  refine WO.nil ?_
  simp only [Then]
  refine WC.block ?_
  refine WC.loop (WC.seq (WC.seq (WC.region ?_)))
  repeat (first
    | (refine WO.yes rfl ?_)
    | (refine WO.no rfl ?_; simp only [pt])
    | (refine WO.op (by intro; simp only [go_sem, Zz.look, fillP, over, cut]; rfl) ?_; simp only [pt])
    | (refine WO.opN (by intro; simp only [go_sem, Zz.look, storeAt, over, setBlk, cut]; rfl) ?_))
  refine WO.op (by intro; exact ev_lenS (n := (r.length + 1 + 1 + 1 + 1)) (by simp only [go_sem]; exact hq.len)) ?_
  simp only [pt]
  repeat (first
    | (refine WO.yes rfl ?_)
    | (refine WO.no rfl ?_; simp only [pt])
    | (refine WO.op (by intro; simp only [go_sem, Zz.look, fillP, over, cut, k0, decide_true]; rfl) ?_; simp only [pt])
    | (refine WO.opN (by intro; simp only [go_sem, Zz.look, storeAt, over, setBlk, cut, k0, decide_true]; rfl) ?_))
  try (
    refine WO.yes rfl ?_
    refine WO.op (by intro; rfl) ?_
    simp only [pt])
  repeat (first
    | (refine WO.yes rfl ?_)
    | (refine WO.no rfl ?_; simp only [pt])
    | (refine WO.op (by intro; simp only [go_sem, Zz.look, fillP, over, cut]; rfl) ?_; simp only [pt])
    | (refine WO.opN (by intro; simp only [go_sem, Zz.look, storeAt, over, setBlk, cut]; rfl) ?_))
  refine WO.nil ?_
  simp only [Then, Out]
  refine WC.yes (by first | rfl | simp only [go_sem, k0, decide_true]) (WC.skip ?_)
  simp only [Then, Out]
  refine WC.seq (WC.block (WC.draw (WD.calmN 12 rfl ?_)))
  simp only [List.take, List.drop, List.map]
  repeat (first
    | (refine WO.yes rfl ?_)
    | (refine WO.no rfl ?_; simp only [pt])
    | (refine WO.op (by intro; simp only [go_sem, Zz.look, fillP, over, cut, w1, w2, w3, w4, s0, s1, s2, s3]; rfl) ?_; simp only [pt])
    | (refine WO.opN (by intro; simp only [go_sem, Zz.look, storeAt, over, setBlk, cut, w1, w2, w3, w4, s0, s1, s2, s3]; rfl) ?_))
  refine WO.op (by intro; rw [ev_indexAddr]; exact (congrArg (Option.map _) x0).trans rfl) ?_
  simp only [pt]
  repeat (first
    | (refine WO.yes rfl ?_)
    | (refine WO.no rfl ?_; simp only [pt])
    | (refine WO.op (by intro; simp only [go_sem, Zz.look, fillP, over, cut, d0]; rfl) ?_; simp only [pt])
    | (refine WO.opN (by intro; simp only [go_sem, Zz.look, storeAt, over, setBlk, cut, d0]; rfl) ?_))
  refine WO.nil ?_
  intro seen
  refine WD.plain rfl rfl (by intro; rw [ev_append]; rfl) rfl ?_
  intro seen
  simp only [St.put, pt]
  refine WD.free rfl (by intro; simp only [go_sem]; rfl) ?_
  simp only [pt]
  refine WD.nil ?_
  simp only [Then, Out]
  refine WC.region ?_
  repeat (first
    | (refine WO.yes rfl ?_)
    | (refine WO.no rfl ?_; simp only [pt])
    | (refine WO.op (by intro; simp only [go_sem, Zz.look, fillP, over, cut, w1, w2, w3, w4]; rfl) ?_; simp only [pt])
    | (refine WO.opN (by intro; simp only [go_sem, Zz.look, storeAt, over, setBlk, cut, w1, w2, w3, w4]; rfl) ?_))
  refine WO.nil ?_
  simp only [Then, Out]
  refine WC.loop (WC.seq (WC.seq (WC.region ?_)))
  repeat (first
    | (refine WO.yes rfl ?_)
    | (refine WO.no rfl ?_; simp only [pt])
    | (refine WO.op (by intro; simp only [go_sem, Zz.look, fillP, over, cut]; rfl) ?_; simp only [pt])
    | (refine WO.opN (by intro; simp only [go_sem, Zz.look, storeAt, over, setBlk, cut]; rfl) ?_))
  refine WO.op (by intro; exact ev_lenS (n := (r.length + 1 + 1 + 1 + 1)) (by simp only [go_sem]; exact hq.len)) ?_
  simp only [pt]
  repeat (first
    | (refine WO.yes rfl ?_)
    | (refine WO.no rfl ?_; simp only [pt])
    | (refine WO.op (by intro; simp only [go_sem, Zz.look, fillP, over, cut, k1, decide_true]; rfl) ?_; simp only [pt])
    | (refine WO.opN (by intro; simp only [go_sem, Zz.look, storeAt, over, setBlk, cut, k1, decide_true]; rfl) ?_))
  try (
    refine WO.yes rfl ?_
    refine WO.op (by intro; rfl) ?_
    simp only [pt])
  repeat (first
    | (refine WO.yes rfl ?_)
    | (refine WO.no rfl ?_; simp only [pt])
    | (refine WO.op (by intro; simp only [go_sem, Zz.look, fillP, over, cut]; rfl) ?_; simp only [pt])
    | (refine WO.opN (by intro; simp only [go_sem, Zz.look, storeAt, over, setBlk, cut]; rfl) ?_))
  refine WO.nil ?_
  simp only [Then, Out]
  refine WC.yes (by first | rfl | simp only [go_sem, k1, decide_true]) (WC.skip ?_)
  simp only [Then, Out]
  refine WC.seq (WC.block (WC.draw (WD.calmN 12 rfl ?_)))
  simp only [List.take, List.drop, List.map]
  repeat (first
    | (refine WO.yes rfl ?_)
    | (refine WO.no rfl ?_; simp only [pt])
    | (refine WO.op (by intro; simp only [go_sem, Zz.look, fillP, over, cut, w1, w2, w3, w4, s0, s1, s2, s3]; rfl) ?_; simp only [pt])
    | (refine WO.opN (by intro; simp only [go_sem, Zz.look, storeAt, over, setBlk, cut, w1, w2, w3, w4, s0, s1, s2, s3]; rfl) ?_))
  refine WO.op (by intro; rw [ev_indexAddr]; exact (congrArg (Option.map _) x1).trans rfl) ?_
  simp only [pt]
  repeat (first
    | (refine WO.yes rfl ?_)
    | (refine WO.no rfl ?_; simp only [pt])
    | (refine WO.op (by intro; simp only [go_sem, Zz.look, fillP, over, cut, d1]; rfl) ?_; simp only [pt])
    | (refine WO.opN (by intro; simp only [go_sem, Zz.look, storeAt, over, setBlk, cut, d1]; rfl) ?_))
  refine WO.nil ?_
  intro seen
  refine WD.plain rfl rfl (by intro; rw [ev_append]; rfl) rfl ?_
  intro seen
  simp only [St.put, pt]
  refine WD.free rfl (by intro; simp only [go_sem]; rfl) ?_
  simp only [pt]
  refine WD.nil ?_
  simp only [Then, Out]
  refine WC.region ?_
  repeat (first
    | (refine WO.yes rfl ?_)
    | (refine WO.no rfl ?_; simp only [pt])
    | (refine WO.op (by intro; simp only [go_sem, Zz.look, fillP, over, cut, w1, w2, w3, w4]; rfl) ?_; simp only [pt])
    | (refine WO.opN (by intro; simp only [go_sem, Zz.look, storeAt, over, setBlk, cut, w1, w2, w3, w4]; rfl) ?_))
  refine WO.nil ?_
  simp only [Then, Out]
  refine WC.loop (WC.seq (WC.seq (WC.region ?_)))
  repeat (first
    | (refine WO.yes rfl ?_)
    | (refine WO.no rfl ?_; simp only [pt])
    | (refine WO.op (by intro; simp only [go_sem, Zz.look, fillP, over, cut]; rfl) ?_; simp only [pt])
    | (refine WO.opN (by intro; simp only [go_sem, Zz.look, storeAt, over, setBlk, cut]; rfl) ?_))
  refine WO.op (by intro; exact ev_lenS (n := (r.length + 1 + 1 + 1 + 1)) (by simp only [go_sem]; exact hq.len)) ?_
  simp only [pt]
  repeat (first
    | (refine WO.yes rfl ?_)
    | (refine WO.no rfl ?_; simp only [pt])
    | (refine WO.op (by intro; simp only [go_sem, Zz.look, fillP, over, cut, k2, decide_true]; rfl) ?_; simp only [pt])
    | (refine WO.opN (by intro; simp only [go_sem, Zz.look, storeAt, over, setBlk, cut, k2, decide_true]; rfl) ?_))
  try (
    refine WO.yes rfl ?_
    refine WO.op (by intro; rfl) ?_
    simp only [pt])
  repeat (first
    | (refine WO.yes rfl ?_)
    | (refine WO.no rfl ?_; simp only [pt])
    | (refine WO.op (by intro; simp only [go_sem, Zz.look, fillP, over, cut]; rfl) ?_; simp only [pt])
    | (refine WO.opN (by intro; simp only [go_sem, Zz.look, storeAt, over, setBlk, cut]; rfl) ?_))
  refine WO.nil ?_
  simp only [Then, Out]
  refine WC.yes (by first | rfl | simp only [go_sem, k2, decide_true]) (WC.skip ?_)
  simp only [Then, Out]
  refine WC.seq (WC.block (WC.draw (WD.calmN 12 rfl ?_)))
  simp only [List.take, List.drop, List.map]
  repeat (first
    | (refine WO.yes rfl ?_)
    | (refine WO.no rfl ?_; simp only [pt])
    | (refine WO.op (by intro; simp only [go_sem, Zz.look, fillP, over, cut, w1, w2, w3, w4, s0, s1, s2, s3]; rfl) ?_; simp only [pt])
    | (refine WO.opN (by intro; simp only [go_sem, Zz.look, storeAt, over, setBlk, cut, w1, w2, w3, w4, s0, s1, s2, s3]; rfl) ?_))
  refine WO.op (by intro; rw [ev_indexAddr]; exact (congrArg (Option.map _) x2).trans rfl) ?_
  simp only [pt]
  repeat (first
    | (refine WO.yes rfl ?_)
    | (refine WO.no rfl ?_; simp only [pt])
    | (refine WO.op (by intro; simp only [go_sem, Zz.look, fillP, over, cut, d2]; rfl) ?_; simp only [pt])
    | (refine WO.opN (by intro; simp only [go_sem, Zz.look, storeAt, over, setBlk, cut, d2]; rfl) ?_))
  refine WO.nil ?_
  intro seen
  refine WD.plain rfl rfl (by intro; rw [ev_append]; rfl) rfl ?_
  intro seen
  simp only [St.put, pt]
  refine WD.free rfl (by intro; simp only [go_sem]; rfl) ?_
  simp only [pt]
  refine WD.nil ?_
  simp only [Then, Out]
  refine WC.region ?_
  repeat (first
    | (refine WO.yes rfl ?_)
    | (refine WO.no rfl ?_; simp only [pt])
    | (refine WO.op (by intro; simp only [go_sem, Zz.look, fillP, over, cut, w1, w2, w3, w4]; rfl) ?_; simp only [pt])
    | (refine WO.opN (by intro; simp only [go_sem, Zz.look, storeAt, over, setBlk, cut, w1, w2, w3, w4]; rfl) ?_))
  refine WO.nil ?_
  simp only [Then, Out]
  refine WC.loop (WC.seq (WC.seq (WC.region ?_)))
  repeat (first
    | (refine WO.yes rfl ?_)
    | (refine WO.no rfl ?_; simp only [pt])
    | (refine WO.op (by intro; simp only [go_sem, Zz.look, fillP, over, cut]; rfl) ?_; simp only [pt])
    | (refine WO.opN (by intro; simp only [go_sem, Zz.look, storeAt, over, setBlk, cut]; rfl) ?_))
  refine WO.op (by intro; exact ev_lenS (n := (r.length + 1 + 1 + 1 + 1)) (by simp only [go_sem]; exact hq.len)) ?_
  simp only [pt]
  repeat (first
    | (refine WO.yes rfl ?_)
    | (refine WO.no rfl ?_; simp only [pt])
    | (refine WO.op (by intro; simp only [go_sem, Zz.look, fillP, over, cut, k3, decide_true]; rfl) ?_; simp only [pt])
    | (refine WO.opN (by intro; simp only [go_sem, Zz.look, storeAt, over, setBlk, cut, k3, decide_true]; rfl) ?_))
  try (
    refine WO.yes rfl ?_
    refine WO.op (by intro; rfl) ?_
    simp only [pt])
  repeat (first
    | (refine WO.yes rfl ?_)
    | (refine WO.no rfl ?_; simp only [pt])
    | (refine WO.op (by intro; simp only [go_sem, Zz.look, fillP, over, cut]; rfl) ?_; simp only [pt])
    | (refine WO.opN (by intro; simp only [go_sem, Zz.look, storeAt, over, setBlk, cut]; rfl) ?_))
  refine WO.nil ?_
  simp only [Then, Out]
  refine WC.yes (by first | rfl | simp only [go_sem, k3, decide_true]) (WC.skip ?_)
  simp only [Then, Out]
  refine WC.seq (WC.block (WC.draw (WD.calmN 12 rfl ?_)))
  simp only [List.take, List.drop, List.map]
  repeat (first
    | (refine WO.yes rfl ?_)
    | (refine WO.no rfl ?_; simp only [pt])
    | (refine WO.op (by intro; simp only [go_sem, Zz.look, fillP, over, cut, w1, w2, w3, w4, s0, s1, s2, s3]; rfl) ?_; simp only [pt])
    | (refine WO.opN (by intro; simp only [go_sem, Zz.look, storeAt, over, setBlk, cut, w1, w2, w3, w4, s0, s1, s2, s3]; rfl) ?_))
  refine WO.op (by intro; rw [ev_indexAddr]; exact (congrArg (Option.map _) x3).trans rfl) ?_
  simp only [pt]
  repeat (first
    | (refine WO.yes rfl ?_)
    | (refine WO.no rfl ?_; simp only [pt])
    | (refine WO.op (by intro; simp only [go_sem, Zz.look, fillP, over, cut, d3]; rfl) ?_; simp only [pt])
    | (refine WO.opN (by intro; simp only [go_sem, Zz.look, storeAt, over, setBlk, cut, d3]; rfl) ?_))
  refine WO.nil ?_
  intro seen
  refine WD.plain rfl rfl (by intro; rw [ev_append]; rfl) rfl ?_
  intro seen
  simp only [St.put, pt]
  refine WD.free rfl (by intro; simp only [go_sem]; rfl) ?_
  simp only [pt]
  refine WD.nil ?_
  simp only [Then, Out]
  refine WC.region ?_
  repeat (first
    | (refine WO.yes rfl ?_)
    | (refine WO.no rfl ?_; simp only [pt])
    | (refine WO.op (by intro; simp only [go_sem, Zz.look, fillP, over, cut, w1, w2, w3, w4]; rfl) ?_; simp only [pt])
    | (refine WO.opN (by intro; simp only [go_sem, Zz.look, storeAt, over, setBlk, cut, w1, w2, w3, w4]; rfl) ?_))
  refine WO.nil ?_
  simp only [Then, Out]
  refine WC.loop (WC.seq (WC.seq (WC.region ?_)))
  repeat (first
    | (refine WO.yes rfl ?_)
    | (refine WO.no rfl ?_; simp only [pt])
    | (refine WO.op (by intro; simp only [go_sem, Zz.look, fillP, over, cut]; rfl) ?_; simp only [pt])
    | (refine WO.opN (by intro; simp only [go_sem, Zz.look, storeAt, over, setBlk, cut]; rfl) ?_))
  refine WO.op (by intro; exact ev_lenS (n := (r.length + 1 + 1 + 1 + 1)) (by simp only [go_sem]; exact hq.len)) ?_
  simp only [pt]
  by_cases kq : ((4 : Int) < ((r.length + 1 + 1 + 1 + 1 : Nat) : Int))
  · repeat (first
      | (refine WO.yes rfl ?_)
      | (refine WO.no rfl ?_; simp only [pt])
      | (refine WO.op (by intro; simp only [go_sem, Zz.look, fillP, over, cut, kq, decide_true]; rfl) ?_; simp only [pt])
      | (refine WO.opN (by intro; simp only [go_sem, Zz.look, storeAt, over, setBlk, cut, kq, decide_true]; rfl) ?_))
    refine WO.nil ?_
    simp only [Then, Out]
    refine WC.no (by first | rfl | simp only [go_sem, kend]) (WC.exit ?_)
    simp only [Then, Out, if_true]
    refine WC.seq (WC.region ?_)
    repeat (first
      | (refine WO.yes rfl ?_)
      | (refine WO.no rfl ?_; simp only [pt])
      | (refine WO.op (by intro; simp only [go_sem, Zz.look, fillP, over, cut]; rfl) ?_; simp only [pt])
      | (refine WO.opN (by intro; simp only [go_sem, Zz.look, storeAt, over, setBlk, cut]; rfl) ?_))
    refine WO.nil ?_
    simp only [Then]
    exact WC.ret ⟨_, rfl, rfl⟩
  · repeat (first
      | (refine WO.yes rfl ?_)
      | (refine WO.no rfl ?_; simp only [pt])
      | (refine WO.op (by intro; simp only [go_sem, Zz.look, fillP, over, cut, kq, decide_false]; rfl) ?_; simp only [pt])
      | (refine WO.opN (by intro; simp only [go_sem, Zz.look, storeAt, over, setBlk, cut, kq, decide_false]; rfl) ?_))
    refine WO.nil ?_
    simp only [Then, Out]
    refine WC.no (by first | rfl | simp only [go_sem, kend]) (WC.exit ?_)
    simp only [Then, Out, if_true]
    refine WC.seq (WC.region ?_)
    repeat (first
      | (refine WO.yes rfl ?_)
      | (refine WO.no rfl ?_; simp only [pt])
      | (refine WO.op (by intro; simp only [go_sem, Zz.look, fillP, over, cut]; rfl) ?_; simp only [pt])
      | (refine WO.opN (by intro; simp only [go_sem, Zz.look, storeAt, over, setBlk, cut]; rfl) ?_))
    refine WO.nil ?_
    simp only [Then]
    exact WC.ret ⟨_, rfl, rfl⟩

theorem rout_good {Γ : Env} (h27 : Spec27 Γ) {s : Int} {q : AV} {qs : List Int} (hs : Γ.spec 15 = none) (hf : Γ.fn 15 = some ir15) (hq : IntS q qs) (h1 : I64 s) (hmax : qs.length < 9223372036854775808)
    (hb : 0 ≤ s ∧ s ≤ 1000 ∧ (qs.length : Int) ≤ 1000 - s) :
    ∃ v, PackS v (outs s (qs.take (min 4 qs.length))) ∧ WF Γ (.func 15 [] []) [.agg [.int .i64 s, q]] ⟨[], []⟩ fun y m' => resV m'.heap y = some (.tuple [v, .int .i64 0]) := by
  obtain ⟨S, hS, h27⟩ := h27
  have h27' : ∀ m, S [.agg [.int .i64 s, q]] m = some (.bool true, m) := fun m => by rw [h27 s q qs m hq h1 hmax, decide_eq_true hb]
  have w1 : IntKind.wrap .i64 (0 + 1) = 1 := rfl
  have w2 : IntKind.wrap .i64 (1 + 1) = 2 := rfl
  have w3 : IntKind.wrap .i64 (2 + 1) = 3 := rfl
  have w4 : IntKind.wrap .i64 (3 + 1) = 4 := rfl
  have s0 : IntKind.wrap .i64 (s + 0) = s := by rw [wrap_id (by omega) (by omega)]; omega
  have s1 : IntKind.wrap .i64 (s + 1) = s + 1 := wrap_id (by omega) (by omega)
  have s2 : IntKind.wrap .i64 (s + 2) = s + 1 + 1 := by rw [wrap_id (by omega) (by omega)]; omega
  have s3 : IntKind.wrap .i64 (s + 3) = s + 1 + 1 + 1 := by rw [wrap_id (by omega) (by omega)]; omega
  have ex : ∀ v ps, PackS v ps → WF Γ (.func 15 [] []) [.agg [.int .i64 s, q]] ⟨[], []⟩ (fun y m' => resV m'.heap y = some (.tuple [v, .int .i64 0])) → ∃ v, PackS v ps ∧ WF Γ (.func 15 [] []) [.agg [.int .i64 s, q]] ⟨[], []⟩ fun y m' => resV m'.heap y = some (.tuple [v, .int .i64 0]) := fun v ps h1 h2 => ⟨v, h1, h2⟩
  clear h27
  revert hq
  match qs with
  | [] => exact fun hq => ex _ _ (.inl ⟨rfl, rfl⟩) (rout_good0 hS hs hf hq h27' w1 w2 w3 w4 s0 s1 s2 s3)
  | [a] => exact fun hq => ex _ _ (.inr ⟨_, rfl⟩) (rout_good1 hS hs hf hq h27' w1 w2 w3 w4 s0 s1 s2 s3)
  | [a, b] => exact fun hq => ex _ _ (.inr ⟨_, rfl⟩) (rout_good2 hS hs hf hq h27' w1 w2 w3 w4 s0 s1 s2 s3)
  | [a, b, c] => exact fun hq => ex _ _ (.inr ⟨_, rfl⟩) (rout_good3 hS hs hf hq h27' w1 w2 w3 w4 s0 s1 s2 s3)
  | a :: b :: c :: d :: r =>
    intro hq
    have hmin : min 4 (a :: b :: c :: d :: r).length = 4 := by simp only [List.length_cons]; omega
    rw [hmin]
    exact ex _ _ (.inr ⟨_, rfl⟩) (rout_good4 hS hs hf hq h27' w1 w2 w3 w4 s0 s1 s2 s3)
end Go.Proofs.Ytpddngcgajjacaa

