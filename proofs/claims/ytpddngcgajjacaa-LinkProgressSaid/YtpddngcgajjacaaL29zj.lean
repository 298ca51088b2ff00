import Derived.Test.YtpddngcgajjacaaL29H
set_option linter.unusedSimpArgs false
set_option linter.unusedVariables false
namespace Go.Proofs.Ytpddngcgajjacaa
open Go.Zz


noncomputable def G4 : Env := withSpec G0 [(10, borrowE G0 10), (13, borrowE Gs 13), (17, borrowE Gh 17), (19, borrowE G0 19), (21, borrowE G0 21), (22, borrowE G3 22), (24, borrowE G0 24)]

theorem G4_ok : EnvOk Try.prog G4 := withSpec_ok fun p hp => by
  simp only [List.mem_cons, List.not_mem_nil, or_false] at hp
  rcases hp with rfl | rfl | rfl | rfl | rfl | rfl | rfl
  · exact borrowE_ok G0_ok (callable Try.func10 (by kernel_rfl))
  · exact borrowE_ok Gs_ok (callable Try.func13 (by kernel_rfl))
  · exact borrowE_ok Gh_ok (callable Try.func17 (by kernel_rfl))
  · exact borrowE_ok G0_ok (callable Try.func19 (by kernel_rfl))
  · exact borrowE_ok G0_ok (callable Try.func21 (by kernel_rfl))
  · exact borrowE_ok G3_ok (callable Try.func22 (by kernel_rfl))
  · exact borrowE_ok G0_ok (callable Try.func24 (by kernel_rfl))

theorem runA_ok {bs ss : List Int} (h : runOk bs ss) : runA bs ss = runM bs (ss.map Int.toNat) := if_pos h
theorem runOk.take {bs ss : List Int} (h : runOk bs ss) (k : Nat) : runOk bs (ss.take k) := ⟨h.1, by have := h.2.1; rw [List.length_take]; omega, fun s hs => h.2.2 s (List.mem_of_mem_take hs)⟩
theorem run_got {bs : List Int} {ss : List Nat} (hb : bs.length ≤ 1000) : (runM bs ss).got.length ≤ 1000 := by
  have h := run_inv (ss := ss) hb
  have := h.gotn
  have := h.n_le
  omega

theorem forward_run {bd x : AV} {bs ss : List Int} {at_ : Nat} (hbd : IntS bd bs) (hx : IntS x ss) (hss : ∀ s ∈ ss, I64 s) (hat : at_ ≤ 65535) :
    WF G4 (.func 9 [] []) [bd, x, .int .u16 at_] ⟨[], []⟩ fun y m' => y = .bool true := by
  obtain ⟨q, g, hq, hg, hrun⟩ := run_eq hbd hx hss
  refine WF.fn rfl (fn_of Try.func9 cir9) (by show 3 ≤ 71; decide) ?_
  unfold ir9
  simp only [padTo, List.replicate, List.nil_append, List.append_nil, List.cons_append]
  by_cases hok : runOk bs ss
  · rw [show runE bs ss = 0 from if_pos hok] at hrun
    obtain ⟨h1, h2, h3⟩ := hok
    have hk : at_ % (ss.length + 1) ≤ ss.length := by have := Nat.mod_lt at_ (show 0 < ss.length + 1 by omega); omega
    obtain ⟨y, hy, hsl⟩ := hx.upto hk
    obtain ⟨q2, g2, hq2, hg2, hrun2⟩ := run_eq hbd hy (fun s hs => hss s (List.mem_of_mem_take hs))
    rw [show runE bs (ss.take (at_ % (ss.length + 1))) = 0 from if_pos (runOk.take ⟨h1, h2, h3⟩ _)] at hrun2
    have e1 := runA_ok (bs := bs) (ss := ss) ⟨h1, h2, h3⟩
    have e2 := runA_ok (runOk.take ⟨h1, h2, h3⟩ (at_ % (ss.length + 1)))
    rw [List.map_take] at e2
    have hf := run_forward (ss := ss.map Int.toNat) h1 (at_ % (ss.length + 1))
    rw [← e1, ← e2] at hf
    obtain ⟨f1, f2, f3⟩ := hf
    have hlg : (runA bs ss).got.length ≤ 1000 := by rw [e1]; exact run_got h1
    obtain ⟨y2, hy2, hsl2⟩ := hg.upto f3
    have g3 := eq21 hg2 hy2 (by omega) (by rw [List.length_take]; omega)
    rw [decide_eq_true f2] at g3
    have hwc : IntKind.wrap .i64 (at_ : Int) = at_ := wrap_id (by omega) (by omega)
    have hw1 : IntKind.wrap .i64 ((ss.length : Int) + 1) = ((ss.length + 1 : Nat) : Int) := by rw [wrap_id (by omega) (by omega)]; rfl
    have hn1 : (((ss.length + 1 : Nat) : Int) = 0) = False := by simp; omega
    have hrem : Int.tmod (at_ : Int) ((ss.length + 1 : Nat) : Int) = ((at_ % (ss.length + 1) : Nat) : Int) := rfl
    have f3' : ¬ (((runA bs ss).got.length : Int) < ((runA bs (ss.take (at_ % (ss.length + 1)))).got.length : Int)) := by omega
    refine WC.seq (WC.region ?_)
    repeat (first
      | (refine WO.yes rfl ?_)
      | (refine WO.no rfl ?_; simp only [pt])
      | (refine WO.op (by intro; simp only [go_sem, Zz.look, fillP, over, cut]; rfl) ?_; simp only [pt])
      | (refine WO.opN (by intro; simp only [go_sem, Zz.look, storeAt, over, setBlk, cut]; rfl) ?_))
    refine WO.nil ?_
    simp only [Then]
    refine WC.seq (WC.region ?_)
    refine WO.call rfl rfl (WF.spec rfl (spec10 _) ?_)
    simp only [pt]
    repeat (first
      | (refine WO.yes rfl ?_)
      | (refine WO.no rfl ?_; simp only [pt])
      | (refine WO.op (by intro; simp only [go_sem, Zz.look, fillP, over, cut]; rfl) ?_; simp only [pt])
      | (refine WO.opN (by intro; simp only [go_sem, Zz.look, storeAt, over, setBlk, cut]; rfl) ?_))
    refine WO.nil ?_
    simp only [Then]
    refine WC.seq (WC.region ?_)
    repeat (first
      | (refine WO.yes rfl ?_)
      | (refine WO.no rfl ?_; simp only [pt])
      | (refine WO.op (by intro; simp only [go_sem, Zz.look, fillP, over, cut]; rfl) ?_; simp only [pt])
      | (refine WO.opN (by intro; simp only [go_sem, Zz.look, storeAt, over, setBlk, cut]; rfl) ?_))
    refine WO.call rfl rfl (WF.spec rfl (hrun _) ?_)
    simp only [pt]
    repeat (first
      | (refine WO.yes rfl ?_)
      | (refine WO.no rfl ?_; simp only [pt])
      | (refine WO.op (by intro; simp only [go_sem, Zz.look, fillP, over, cut]; rfl) ?_; simp only [pt])
      | (refine WO.opN (by intro; simp only [go_sem, Zz.look, storeAt, over, setBlk, cut]; rfl) ?_))
    refine WO.nil ?_
    simp only [Then]
    refine WC.seq (WC.seq (WC.region ?_))
    repeat (first
      | (refine WO.yes rfl ?_)
      | (refine WO.no rfl ?_; simp only [pt])
      | (refine WO.op (by intro; simp only [go_sem, Zz.look, fillP, over, cut, bne_self_eq_false]; rfl) ?_; simp only [pt])
      | (refine WO.opN (by intro; simp only [go_sem, Zz.look, storeAt, over, setBlk, cut, bne_self_eq_false]; rfl) ?_))
    refine WO.nil ?_
    simp only [Then]
    refine WC.no (by simp only [go_sem]) (WC.skip ?_)
    simp only [Then]
    refine WC.seq (WC.region ?_)
    repeat (first
      | (refine WO.yes rfl ?_)
      | (refine WO.no rfl ?_; simp only [pt])
      | (refine WO.op (by intro; simp only [go_sem, Zz.look, fillP, over, cut, hwc]; rfl) ?_; simp only [pt])
      | (refine WO.opN (by intro; simp only [go_sem, Zz.look, storeAt, over, setBlk, cut, hwc]; rfl) ?_))
    refine WO.op (by intro; exact ev_lenS (n := ss.length) (by simp only [go_sem]; exact hx.len)) ?_
    simp only [pt]
    repeat (first
      | (refine WO.yes rfl ?_)
      | (refine WO.no rfl ?_; simp only [pt])
      | (refine WO.op (by intro; simp only [go_sem, Zz.look, fillP, over, cut, hw1, hn1, hrem]; rfl) ?_; simp only [pt])
      | (refine WO.opN (by intro; simp only [go_sem, Zz.look, storeAt, over, setBlk, cut, hw1, hn1, hrem]; rfl) ?_))
    refine WO.nil ?_
    simp only [Then]
    refine WC.seq (WC.region ?_)
    repeat (first
      | (refine WO.yes rfl ?_)
      | (refine WO.no rfl ?_; simp only [pt])
      | (refine WO.op (by intro; simp only [go_sem, Zz.look, fillP, over, cut]; rfl) ?_; simp only [pt])
      | (refine WO.opN (by intro; simp only [go_sem, Zz.look, storeAt, over, setBlk, cut]; rfl) ?_))
    refine WO.op (by intro; rw [ev_slice]; exact (congrArg (Option.map _) (hsl _)).trans rfl) ?_
    simp only [pt]
    refine WO.call rfl rfl (WF.spec rfl (hrun2 _) ?_)
    simp only [pt]
    repeat (first
      | (refine WO.yes rfl ?_)
      | (refine WO.no rfl ?_; simp only [pt])
      | (refine WO.op (by intro; simp only [go_sem, Zz.look, fillP, over, cut]; rfl) ?_; simp only [pt])
      | (refine WO.opN (by intro; simp only [go_sem, Zz.look, storeAt, over, setBlk, cut]; rfl) ?_))
    refine WO.nil ?_
    simp only [Then]
    refine WC.seq (WC.seq (WC.region ?_))
    repeat (first
      | (refine WO.yes rfl ?_)
      | (refine WO.no rfl ?_; simp only [pt])
      | (refine WO.op (by intro; simp only [go_sem, Zz.look, fillP, over, cut, bne_self_eq_false]; rfl) ?_; simp only [pt])
      | (refine WO.opN (by intro; simp only [go_sem, Zz.look, storeAt, over, setBlk, cut, bne_self_eq_false]; rfl) ?_))
    refine WO.op (by intro; exact ev_lenS (n := (runA bs (ss.take (at_ % (ss.length + 1)))).got.length) (by simp only [go_sem]; exact hg2.len)) ?_
    simp only [pt]
    repeat (first
      | (refine WO.yes rfl ?_)
      | (refine WO.no rfl ?_; simp only [pt])
      | (refine WO.op (by intro; simp only [go_sem, Zz.look, fillP, over, cut]; rfl) ?_; simp only [pt])
      | (refine WO.opN (by intro; simp only [go_sem, Zz.look, storeAt, over, setBlk, cut]; rfl) ?_))
    refine WO.op (by intro; exact ev_lenS (n := (runA bs ss).got.length) (by simp only [go_sem]; exact hg.len)) ?_
    simp only [pt]
    repeat (first
      | (refine WO.yes rfl ?_)
      | (refine WO.no rfl ?_; simp only [pt])
      | (refine WO.op (by intro; simp only [go_sem, Zz.look, fillP, over, cut, f3', decide_false]; rfl) ?_; simp only [pt])
      | (refine WO.opN (by intro; simp only [go_sem, Zz.look, storeAt, over, setBlk, cut, f3', decide_false]; rfl) ?_))
    refine WO.nil ?_
    simp only [Then]
    refine WC.no (by simp only [go_sem]) (WC.skip ?_)
    simp only [Then]
    refine WC.seq (WC.draw (WD.calmN 10 rfl ?_))
    simp only [List.take, List.drop, List.map]
    repeat (first
      | (refine WO.yes rfl ?_)
      | (refine WO.no rfl ?_; simp only [pt])
      | (refine WO.op (by intro; simp only [go_sem, Zz.look, fillP, over, cut]; rfl) ?_; simp only [pt])
      | (refine WO.opN (by intro; simp only [go_sem, Zz.look, storeAt, over, setBlk, cut]; rfl) ?_))
    refine WO.op (by intro; exact ev_lenS (n := (runA bs (ss.take (at_ % (ss.length + 1)))).got.length) (by simp only [go_sem]; exact hg2.len)) ?_
    simp only [pt]
    refine WO.yes rfl ?_
    refine WO.op (by intro; rw [ev_slice]; exact (congrArg (Option.map _) (hsl2 _)).trans rfl) ?_
    simp only [pt]
    refine WO.nil ?_
    intro seen
    refine WD.yes rfl (WD.callP (WF.spec (S := borrowE G0 21) rfl (g3 _) ⟨dead_self _, ?_⟩))
    intro seen
    refine WD.calmN 9 rfl ?_
    simp only [List.take, List.drop, List.map, St.put, pt]
    repeat (first
      | (refine WO.yes rfl ?_)
      | (refine WO.no rfl ?_; simp only [pt])
      | (refine WO.op (by intro; simp only [go_sem, Zz.look, fillP, over, cut, f1, decide_true]; rfl) ?_; simp only [pt])
      | (refine WO.opN (by intro; simp only [go_sem, Zz.look, storeAt, over, setBlk, cut, f1, decide_true]; rfl) ?_))
    refine WO.nil ?_
    intro seen
    refine WD.nil ?_
    simp only [Then]
    exact WC.ret ⟨_, rfl, by simp [oneRes, gt]⟩
  · rw [show runE bs ss = 1 from if_neg hok] at hrun
    have h10 : ((1 : Int) != 0) = true := by decide
    refine WC.seq (WC.region ?_)
    repeat (first
      | (refine WO.yes rfl ?_)
      | (refine WO.no rfl ?_; simp only [pt])
      | (refine WO.op (by intro; simp only [go_sem, Zz.look, fillP, over, cut]; rfl) ?_; simp only [pt])
      | (refine WO.opN (by intro; simp only [go_sem, Zz.look, storeAt, over, setBlk, cut]; rfl) ?_))
    refine WO.nil ?_
    simp only [Then]
    refine WC.seq (WC.region ?_)
    refine WO.call rfl rfl (WF.spec rfl (spec10 _) ?_)
    simp only [pt]
    repeat (first
      | (refine WO.yes rfl ?_)
      | (refine WO.no rfl ?_; simp only [pt])
      | (refine WO.op (by intro; simp only [go_sem, Zz.look, fillP, over, cut]; rfl) ?_; simp only [pt])
      | (refine WO.opN (by intro; simp only [go_sem, Zz.look, storeAt, over, setBlk, cut]; rfl) ?_))
    refine WO.nil ?_
    simp only [Then]
    refine WC.seq (WC.region ?_)
    repeat (first
      | (refine WO.yes rfl ?_)
      | (refine WO.no rfl ?_; simp only [pt])
      | (refine WO.op (by intro; simp only [go_sem, Zz.look, fillP, over, cut]; rfl) ?_; simp only [pt])
      | (refine WO.opN (by intro; simp only [go_sem, Zz.look, storeAt, over, setBlk, cut]; rfl) ?_))
    refine WO.call rfl rfl (WF.spec rfl (hrun _) ?_)
    simp only [pt]
    repeat (first
      | (refine WO.yes rfl ?_)
      | (refine WO.no rfl ?_; simp only [pt])
      | (refine WO.op (by intro; simp only [go_sem, Zz.look, fillP, over, cut]; rfl) ?_; simp only [pt])
      | (refine WO.opN (by intro; simp only [go_sem, Zz.look, storeAt, over, setBlk, cut]; rfl) ?_))
    refine WO.nil ?_
    simp only [Then]
    refine WC.seq (WC.seq (WC.region ?_))
    repeat (first
      | (refine WO.yes rfl ?_)
      | (refine WO.no rfl ?_; simp only [pt])
      | (refine WO.op (by intro; simp only [go_sem, Zz.look, fillP, over, cut, h10]; rfl) ?_; simp only [pt])
      | (refine WO.opN (by intro; simp only [go_sem, Zz.look, storeAt, over, setBlk, cut, h10]; rfl) ?_))
    refine WO.nil ?_
    simp only [Then]
    refine WC.yes (by simp only [go_sem]) (WC.seq (WC.region ?_))
    repeat (first
      | (refine WO.yes rfl ?_)
      | (refine WO.no rfl ?_; simp only [pt])
      | (refine WO.op (by intro; simp only [go_sem, Zz.look, fillP, over, cut]; rfl) ?_; simp only [pt])
      | (refine WO.opN (by intro; simp only [go_sem, Zz.look, storeAt, over, setBlk, cut]; rfl) ?_))
    refine WO.nil ?_
    simp only [Then]
    exact WC.ret ⟨_, rfl, by simp [oneRes, gt]⟩
end Go.Proofs.Ytpddngcgajjacaa

