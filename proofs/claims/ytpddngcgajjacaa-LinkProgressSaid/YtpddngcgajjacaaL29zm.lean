import Derived.Test.YtpddngcgajjacaaL29zl
set_option linter.unusedSimpArgs false
set_option linter.unusedVariables false
namespace Go.Proofs.Ytpddngcgajjacaa
open Go.Zz


theorem IntS.mid {x : AV} {xs : List Int} (h : IntS x xs) {lo hi : Nat} (h1 : lo ≤ hi) (h2 : hi ≤ xs.length) : ∃ y, IntS y ((xs.take hi).drop lo) ∧ ∀ H, sliceAV H 1 x (some (.int .i64 (lo : Int))) (some (.int .i64 (hi : Int))) none = some y := by
  rcases h with ⟨rfl, rfl⟩ | ⟨full, rfl⟩
  · have e2 : hi = 0 := by simpa using h2
    have e1 : lo = 0 := by omega
    subst e1; subst e2
    exact ⟨.snil, .inl ⟨rfl, rfl⟩, fun H => by simp [sliceAV, bnds, bndO, bnd]⟩
  · have hc : ∀ f : Bool, (if f = true then some xs.length else none).getD xs.length = xs.length := fun f => by cases f <;> rfl
    have key : ∀ f, f = (match (if full = true then some xs.length else none) with | some c => c == hi | none => false) → ∀ H, sliceAV H 1 (.sval full xs.length (xs.map (.int .i64))) (some (.int .i64 (lo : Int))) (some (.int .i64 (hi : Int))) none = some (.sval f (hi - lo) (((xs.take hi).drop lo).map (.int .i64))) := by
      rintro f rfl H
      simp only [sliceAV, List.length_map, Nat.mul_one, if_true, bnds, bndO, bnd]
      rw [hc, if_pos ⟨by omega, by omega⟩]
      simp only [Int.toNat_natCast]
      rw [if_pos ⟨by omega, by omega⟩]
      simp only [Int.toNat_natCast, Option.map_some, Option.some.injEq, AV.sval.injEq, true_and]
      rw [← List.map_drop, ← List.map_take, List.drop_take]
      exact ⟨rfl, rfl⟩
    exact ⟨_, .inr ⟨_, by simp [Nat.min_eq_left h2]; rfl⟩, key _ rfl⟩

theorem once_run {bd x : AV} {bs ss : List Int} (hbd : IntS bd bs) (hx : IntS x ss) (hss : ∀ s ∈ ss, I64 s) :
    WF G4 (.func 4 [] []) [bd, x] ⟨[], []⟩ fun y m' => y = .bool true := by
  obtain ⟨q, g, hq, hg, hrun⟩ := run_eq hbd hx hss
  refine WF.fn rfl (fn_of Try.func4 cir4) (by show 2 ≤ 100; decide) ?_
  unfold ir4
  simp only [padTo, List.replicate, List.nil_append, List.append_nil, List.cons_append]
  by_cases hok : runOk bs ss
  · rw [show runE bs ss = 0 from if_pos hok] at hrun
    obtain ⟨h1, h2, h3⟩ := hok
    have e1 := runA_ok (bs := bs) (ss := ss) ⟨h1, h2, h3⟩
    have inv := run_inv (ss := ss.map Int.toNat) h1
    rw [← e1] at inv
    have emap : (ss.map Int.toNat).map (fun s : Nat => (s : Int)) = ss := by
      rw [List.map_map]
      conv => rhs; rw [← List.map_id ss]
      refine List.map_congr_left fun s hs => ?_
      have := h3 s hs
      simp only [Function.comp, id]
      omega
    have hand := handed_eq (ss := ss.map Int.toNat) hbd (by rw [emap]; exact hx) h1 (by simpa using h2)
    generalize handedM bs.length (ss.map Int.toNat) 0 = n at inv hand
    generalize runA bs ss = X at hq hg hrun inv
    have hql := inv.qlen
    have i1 := inv.n_le
    have i2 := inv.seq0
    have i3 := inv.seqgot
    have i4 := inv.gotn
    obtain ⟨sq, hsq⟩ : ∃ sq : Nat, X.seq = sq := ⟨X.seq.toNat, by omega⟩
    rw [hsq] at hrun hql i2 i3
    obtain ⟨y1, hy1, hsl1⟩ := hbd.upto (n := X.got.length) (by omega)
    obtain ⟨y2, hy2, hsl2⟩ := hbd.mid (lo := sq) (hi := n) (by omega) i1
    have g3 := eq21 hg hy1 (by omega) (by rw [List.length_take]; omega)
    rw [decide_eq_true inv.got] at g3
    have g4 := eq21 hq hy2 (by omega) (by rw [List.length_drop, List.length_take]; omega)
    rw [decide_eq_true (show X.queue = (bs.take n).drop sq by rw [inv.queue, hsq]; simp)] at g4
    have c1 : ¬ ((n : Int) < (X.got.length : Int)) := by omega
    have c2 : ¬ ((sq : Int) < 0) := by omega
    have c3 : ¬ ((X.got.length : Int) < (sq : Int)) := by omega
    have hw : IntKind.wrap .i64 ((n : Int) - (sq : Int)) = (X.queue.length : Int) := by rw [wrap_id (by omega) (by omega)]; omega
    have c5 : ¬ ((bs.length : Int) < (n : Int)) := by omega
    refine WC.seq (WC.region ?_)
    repeat (first
      | (refine WO.yes rfl ?_)
      | (refine WO.no rfl ?_; simp only [pt])
      | (refine WO.op (by intro; simp only [go_sem, Zz.look, fillP, over, cut]; rfl) ?_; simp only [pt])
      | (refine WO.opN (by intro; simp only [go_sem, Zz.look, storeAt, over, setBlk, cut]; rfl) ?_))
    refine WO.nil ?_
    simp only [Then]
    refine WC.seq (WC.region ?_)
    refine WO.call rfl rfl (WF.spec rfl (spec10 _) ?_)
    simp only [pt]
    repeat (first
      | (refine WO.yes rfl ?_)
      | (refine WO.no rfl ?_; simp only [pt])
      | (refine WO.op (by intro; simp only [go_sem, Zz.look, fillP, over, cut]; rfl) ?_; simp only [pt])
      | (refine WO.opN (by intro; simp only [go_sem, Zz.look, storeAt, over, setBlk, cut]; rfl) ?_))
    refine WO.nil ?_
    simp only [Then]
    refine WC.seq (WC.region ?_)
    repeat (first
      | (refine WO.yes rfl ?_)
      | (refine WO.no rfl ?_; simp only [pt])
      | (refine WO.op (by intro; simp only [go_sem, Zz.look, fillP, over, cut]; rfl) ?_; simp only [pt])
      | (refine WO.opN (by intro; simp only [go_sem, Zz.look, storeAt, over, setBlk, cut]; rfl) ?_))
    refine WO.call rfl rfl (WF.spec rfl (hrun _) ?_)
    simp only [pt]
    repeat (first
      | (refine WO.yes rfl ?_)
      | (refine WO.no rfl ?_; simp only [pt])
      | (refine WO.op (by intro; simp only [go_sem, Zz.look, fillP, over, cut]; rfl) ?_; simp only [pt])
      | (refine WO.opN (by intro; simp only [go_sem, Zz.look, storeAt, over, setBlk, cut]; rfl) ?_))
    refine WO.nil ?_
    simp only [Then]
    refine WC.seq (WC.seq (WC.region ?_))
    repeat (first
      | (refine WO.yes rfl ?_)
      | (refine WO.no rfl ?_; simp only [pt])
      | (refine WO.op (by intro; simp only [go_sem, Zz.look, fillP, over, cut, bne_self_eq_false]; rfl) ?_; simp only [pt])
      | (refine WO.opN (by intro; simp only [go_sem, Zz.look, storeAt, over, setBlk, cut, bne_self_eq_false]; rfl) ?_))
    refine WO.nil ?_
    simp only [Then]
    refine WC.no (by simp only [go_sem]) (WC.skip ?_)
    simp only [Then]
    refine WC.seq (WC.region ?_)
    repeat (first
      | (refine WO.yes rfl ?_)
      | (refine WO.no rfl ?_; simp only [pt])
      | (refine WO.op (by intro; simp only [go_sem, Zz.look, fillP, over, cut]; rfl) ?_; simp only [pt])
      | (refine WO.opN (by intro; simp only [go_sem, Zz.look, storeAt, over, setBlk, cut]; rfl) ?_))
    refine WO.call rfl rfl (WF.spec rfl (hand _) ?_)
    simp only [pt]
    repeat (first
      | (refine WO.yes rfl ?_)
      | (refine WO.no rfl ?_; simp only [pt])
      | (refine WO.op (by intro; simp only [go_sem, Zz.look, fillP, over, cut]; rfl) ?_; simp only [pt])
      | (refine WO.opN (by intro; simp only [go_sem, Zz.look, storeAt, over, setBlk, cut]; rfl) ?_))
    refine WO.nil ?_
    simp only [Then]
    refine WC.seq (WC.seq (WC.region ?_))
    repeat (first
      | (refine WO.yes rfl ?_)
      | (refine WO.no rfl ?_; simp only [pt])
      | (refine WO.op (by intro; simp only [go_sem, Zz.look, fillP, over, cut]; rfl) ?_; simp only [pt])
      | (refine WO.opN (by intro; simp only [go_sem, Zz.look, storeAt, over, setBlk, cut]; rfl) ?_))
    refine WO.op (by intro; exact ev_lenS (n := X.got.length) (by simp only [go_sem]; exact hg.len)) ?_
    simp only [pt]
    repeat (first
      | (refine WO.yes rfl ?_)
      | (refine WO.no rfl ?_; simp only [pt])
      | (refine WO.op (by intro; simp only [go_sem, Zz.look, fillP, over, cut, c1, c2, decide_false]; rfl) ?_; simp only [pt])
      | (refine WO.opN (by intro; simp only [go_sem, Zz.look, storeAt, over, setBlk, cut, c1, c2, decide_false]; rfl) ?_))
    refine WO.op (by intro; exact ev_lenS (n := X.got.length) (by simp only [go_sem]; exact hg.len)) ?_
    simp only [pt]
    repeat (first
      | (refine WO.yes rfl ?_)
      | (refine WO.no rfl ?_; simp only [pt])
      | (refine WO.op (by intro; simp only [go_sem, Zz.look, fillP, over, cut, c3, decide_false]; rfl) ?_; simp only [pt])
      | (refine WO.opN (by intro; simp only [go_sem, Zz.look, storeAt, over, setBlk, cut, c3, decide_false]; rfl) ?_))
    refine WO.op (by intro; exact ev_lenS (n := X.queue.length) (by simp only [go_sem]; exact hq.len)) ?_
    simp only [pt]
    repeat (first
      | (refine WO.yes rfl ?_)
      | (refine WO.no rfl ?_; simp only [pt])
      | (refine WO.op (by intro; simp only [go_sem, Zz.look, fillP, over, cut, hw, bne_self_eq_false]; rfl) ?_; simp only [pt])
      | (refine WO.opN (by intro; simp only [go_sem, Zz.look, storeAt, over, setBlk, cut, hw, bne_self_eq_false]; rfl) ?_))
    refine WO.op (by intro; exact ev_lenS (n := bs.length) (by simp only [go_sem]; exact hbd.len)) ?_
    simp only [pt]
    repeat (first
      | (refine WO.yes rfl ?_)
      | (refine WO.no rfl ?_; simp only [pt])
      | (refine WO.op (by intro; simp only [go_sem, Zz.look, fillP, over, cut, c5, decide_false]; rfl) ?_; simp only [pt])
      | (refine WO.opN (by intro; simp only [go_sem, Zz.look, storeAt, over, setBlk, cut, c5, decide_false]; rfl) ?_))
    refine WO.nil ?_
    simp only [Then]
    refine WC.no (by simp only [go_sem]) (WC.skip ?_)
    simp only [Then]
    refine WC.seq (WC.draw (WD.calmN 9 rfl ?_))
    simp only [List.take, List.drop, List.map]
    repeat (first
      | (refine WO.yes rfl ?_)
      | (refine WO.no rfl ?_; simp only [pt])
      | (refine WO.op (by intro; simp only [go_sem, Zz.look, fillP, over, cut]; rfl) ?_; simp only [pt])
      | (refine WO.opN (by intro; simp only [go_sem, Zz.look, storeAt, over, setBlk, cut]; rfl) ?_))
    refine WO.op (by intro; exact ev_lenS (n := X.got.length) (by simp only [go_sem]; exact hg.len)) ?_
    simp only [pt]
    refine WO.yes rfl ?_
    refine WO.op (by intro; rw [ev_slice]; exact (congrArg (Option.map _) (hsl1 _)).trans rfl) ?_
    simp only [pt]
    refine WO.nil ?_
    intro seen
    refine WD.yes rfl (WD.callP (WF.spec (S := borrowE G0 21) rfl (g3 _) ⟨dead_self _, ?_⟩))
    intro seen
    refine WD.calmN 9 rfl ?_
    simp only [List.take, List.drop, List.map, St.put, pt]
    repeat (first
      | (refine WO.yes rfl ?_)
      | (refine WO.no rfl ?_; simp only [pt])
      | (refine WO.op (by intro; simp only [go_sem, Zz.look, fillP, over, cut]; rfl) ?_; simp only [pt])
      | (refine WO.opN (by intro; simp only [go_sem, Zz.look, storeAt, over, setBlk, cut]; rfl) ?_))
    refine WO.op (by intro; rw [ev_slice]; exact (congrArg (Option.map _) (hsl2 _)).trans rfl) ?_
    simp only [pt]
    refine WO.nil ?_
    intro seen
    refine WD.yes rfl (WD.callP (WF.spec (S := borrowE G0 21) rfl (g4 _) ⟨dead_self _, ?_⟩))
    intro seen
    refine WD.calmN 2 rfl ?_
    simp only [List.take, List.drop, List.map, St.put, pt]
    repeat (first
      | (refine WO.yes rfl ?_)
      | (refine WO.no rfl ?_; simp only [pt])
      | (refine WO.op (by intro; simp only [go_sem, Zz.look, fillP, over, cut]; rfl) ?_; simp only [pt])
      | (refine WO.opN (by intro; simp only [go_sem, Zz.look, storeAt, over, setBlk, cut]; rfl) ?_))
    refine WO.nil ?_
    intro seen
    refine WD.nil ?_
    simp only [Then]
    exact WC.ret ⟨_, rfl, by simp [oneRes, gt]⟩
  · rw [show runE bs ss = 1 from if_neg hok, show runA bs ss = run0 [] from if_neg hok] at hrun
    rw [show runA bs ss = run0 [] from if_neg hok] at hq hg
    have l1 : slen q = some 0 := hq.len
    have l2 : slen g = some 0 := hg.len
    have h10 : ((1 : Int) != 0) = true := by decide
    simp only [run0] at hrun
    refine WC.seq (WC.region ?_)
    repeat (first
      | (refine WO.yes rfl ?_)
      | (refine WO.no rfl ?_; simp only [pt])
      | (refine WO.op (by intro; simp only [go_sem, Zz.look, fillP, over, cut]; rfl) ?_; simp only [pt])
      | (refine WO.opN (by intro; simp only [go_sem, Zz.look, storeAt, over, setBlk, cut]; rfl) ?_))
    refine WO.nil ?_
    simp only [Then]
    refine WC.seq (WC.region ?_)
    refine WO.call rfl rfl (WF.spec rfl (spec10 _) ?_)
    simp only [pt]
    repeat (first
      | (refine WO.yes rfl ?_)
      | (refine WO.no rfl ?_; simp only [pt])
      | (refine WO.op (by intro; simp only [go_sem, Zz.look, fillP, over, cut]; rfl) ?_; simp only [pt])
      | (refine WO.opN (by intro; simp only [go_sem, Zz.look, storeAt, over, setBlk, cut]; rfl) ?_))
    refine WO.nil ?_
    simp only [Then]
    refine WC.seq (WC.region ?_)
    repeat (first
      | (refine WO.yes rfl ?_)
      | (refine WO.no rfl ?_; simp only [pt])
      | (refine WO.op (by intro; simp only [go_sem, Zz.look, fillP, over, cut]; rfl) ?_; simp only [pt])
      | (refine WO.opN (by intro; simp only [go_sem, Zz.look, storeAt, over, setBlk, cut]; rfl) ?_))
    refine WO.call rfl rfl (WF.spec rfl (hrun _) ?_)
    simp only [pt]
    repeat (first
      | (refine WO.yes rfl ?_)
      | (refine WO.no rfl ?_; simp only [pt])
      | (refine WO.op (by intro; simp only [go_sem, Zz.look, fillP, over, cut]; rfl) ?_; simp only [pt])
      | (refine WO.opN (by intro; simp only [go_sem, Zz.look, storeAt, over, setBlk, cut]; rfl) ?_))
    refine WO.nil ?_
    simp only [Then]
    refine WC.seq (WC.seq (WC.region ?_))
    repeat (first
      | (refine WO.yes rfl ?_)
      | (refine WO.no rfl ?_; simp only [pt])
      | (refine WO.op (by intro; simp only [go_sem, Zz.look, fillP, over, cut, h10]; rfl) ?_; simp only [pt])
      | (refine WO.opN (by intro; simp only [go_sem, Zz.look, storeAt, over, setBlk, cut, h10]; rfl) ?_))
    refine WO.nil ?_
    simp only [Then]
    refine WC.yes (by simp only [go_sem]) (WC.seq (WC.region ?_))
    repeat (first
      | (refine WO.yes rfl ?_)
      | (refine WO.no rfl ?_; simp only [pt])
      | (refine WO.op (by intro; simp only [go_sem, Zz.look, fillP, over, cut, beq_self_eq_true]; rfl) ?_; simp only [pt])
      | (refine WO.opN (by intro; simp only [go_sem, Zz.look, storeAt, over, setBlk, cut, beq_self_eq_true]; rfl) ?_))
    refine WO.op (by intro; exact ev_lenS (n := 0) (by simp only [go_sem]; exact l1)) ?_
    simp only [pt]
    repeat (first
      | (refine WO.yes rfl ?_)
      | (refine WO.no rfl ?_; simp only [pt])
      | (refine WO.op (by intro; simp only [go_sem, Zz.look, fillP, over, cut, Int.natCast_zero, beq_self_eq_true]; rfl) ?_; simp only [pt])
      | (refine WO.opN (by intro; simp only [go_sem, Zz.look, storeAt, over, setBlk, cut, Int.natCast_zero, beq_self_eq_true]; rfl) ?_))
    refine WO.op (by intro; exact ev_lenS (n := 0) (by simp only [go_sem]; exact l2)) ?_
    simp only [pt]
    repeat (first
      | (refine WO.yes rfl ?_)
      | (refine WO.no rfl ?_; simp only [pt])
      | (refine WO.op (by intro; simp only [go_sem, Zz.look, fillP, over, cut, Int.natCast_zero, beq_self_eq_true]; rfl) ?_; simp only [pt])
      | (refine WO.opN (by intro; simp only [go_sem, Zz.look, storeAt, over, setBlk, cut, Int.natCast_zero, beq_self_eq_true]; rfl) ?_))
    refine WO.nil ?_
    simp only [Then]
    exact WC.ret ⟨_, rfl, by simp [oneRes, gt]⟩
end Go.Proofs.Ytpddngcgajjacaa

