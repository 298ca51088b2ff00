import Derived.Test.YtgchabldcnmccaaDoorKq
set_option linter.unusedSimpArgs false
set_option linter.unusedVariables false

namespace Go.Proofs.YtgchabldcnmccaaDoor
open Go.Zz
set_option maxRecDepth 100000
set_option maxHeartbeats 8000000
theorem mv_flat (ms : List Mv) : ∀ c ∈ ms.map Mv.cells, c.all flatAV = true := by
  intro c hc
  obtain ⟨p, _, rfl⟩ := List.mem_map.1 hc
  rfl
theorem MvL.byVal {x : AV} {ms : List Mv} (h : MvL x ms) (H : Hp) : Zz.byVal H x = some x := SL.byVal h (mv_flat ms) H
theorem mv_len (ms : List Mv) : (ms.map Mv.cells).flatten.length = ms.length * 7 := by
  have := flat_len (k := 7) (cs := ms.map Mv.cells) (by
    intro c hc
    obtain ⟨p, _, rfl⟩ := List.mem_map.1 hc
    rfl)
  rwa [List.length_map] at this
theorem mv_take (ms : List Mv) (i : Nat) : ((ms.map Mv.cells).flatten).take (i * 7) = ((ms.take i).map Mv.cells).flatten := by
  induction ms generalizing i with
  | nil => simp
  | cons m r ih =>
    cases i with
    | zero => simp
    | succ i =>
      have e : (m :: r).map Mv.cells = m.cells :: r.map Mv.cells := rfl
      have hl : m.cells.length = 7 := rfl
      rw [e, List.flatten_cons, show (i + 1) * 7 = m.cells.length + i * 7 by rw [hl]; omega, List.take_length_add_append, ih, List.take_succ_cons, List.map_cons, List.flatten_cons]
theorem Scr.val {x : AV} {ms : List Mv} (h : MvL x ms) : Scr [] x ms := by
  refine ⟨h.len, fun i hi => ?_⟩
  obtain ⟨h0, ⟨rfl, hn⟩ | ⟨full, rfl⟩⟩ := h
  · have : ms = [] := by simpa using hn
    subst this
    simp at hi
  · rw [List.length_map]
    have hb : ∃ m, bnds ms.length (if full then some ms.length else none) none (some (.int .i64 ((i : Int) + 1))) none = some (0, i + 1, m) := by
      have e1 : (0 : Int) ≤ (i : Int) + 1 ∧ (i : Int) + 1 ≤ (ms.length : Nat) := by omega
      have e2 : ((i : Int) + 1).toNat = i + 1 := by omega
      cases full <;> simp [bnds, bndO, bnd, e1, e2]
    obtain ⟨m, hm⟩ := hb
    have hx : MvL (.sval (match m with | some c => c == i + 1 | none => false) (i + 1) ((ms.take (i + 1)).map Mv.cells).flatten) (ms.take (i + 1)) := by
      refine ⟨?_, .inr ⟨(match m with | some c => c == i + 1 | none => false), ?_⟩⟩
      · intro c hc
        obtain ⟨p, _, rfl⟩ := List.mem_map.1 hc
        rfl
      · rw [List.length_map, List.length_take, Nat.min_eq_left (by omega)]
    refine ⟨_, _, fun V => ?_, fun V _ => hx.byVal V, hx⟩
    simp only [sliceAV, mv_len, if_true, hm, Option.map_some, Nat.zero_mul, List.drop_zero, Nat.sub_zero, mv_take]
    cases m <;> rfl
theorem s6 {n k : Int} {x : AV} {ms : List Mv} (hx : MvL x ms) (hr : RunOk n ms) (hk : DkOk k n) (h1 : ∀ m ∈ ms, m.k = 2 → m.v.s = 1) (h40 : ms.length ≤ 40) {m : Mem} : borrowE E30 6 [.int .i64 n, x, .int .i64 k] m = some (.tuple [.agg [dV (FR (recs n k ms ms.length)), .int .i64 ((FR (recs n k ms ms.length)).length : Nat)], .bool true], m) :=
  borrowE_of (by rw [List.all_cons, List.all_cons, hx.pureA]; rfl) ((f6 (Scr.val hx) hr hk h1 h40).mono fun y m' h => by
    rw [h.1]
    simp only [resV, resT, disk_res]
    rfl)
noncomputable def E31 : Env := E30.put 6 (borrowE E30 6)
theorem E31_ok : EnvOk Tryd.prog E31 := Env.put_ok E30_ok (borrowE_ok E30_ok (callable Tryd.func6 (by kernel_rfl)))
def tk1 : Tk := ⟨1, 0, 1, 0⟩
def ms0 : List Mv := [⟨1, 1, 0, tk0⟩, ⟨1, 1, 1, tk0⟩, ⟨2, 1, 0, tk1⟩, ⟨3, 1, 0, tk0⟩]
def rs0h : List Rc := [⟨1, 1, 1, tk0⟩, ⟨2, 1, 1, tk1⟩]
theorem recs0 : recs 3 0 ms0 4 = rs0h := by decide
theorem fold0 : foldR [] rs0h = some [⟨1, 1, tk1⟩] := by decide
theorem len0 : (FR rs0h).length = 23 := by rfl
theorem dk0 : DkOf (dV (FR rs0h)) rs0h [⟨1, 1, tk1⟩] := by
  refine ⟨dV_ok _, ?_, by decide, fold0, by decide⟩
  intro r hr
  simp [rs0h] at hr
  rcases hr with rfl | rfl
  · exact ⟨by decide, rfl, .inl rfl⟩
  · exact ⟨by decide, rfl, .inr rfl⟩
theorem bnds_hi {n i : Nat} (h : i + 1 ≤ n) : bnds n (some n) none (some (.int .i64 ((i : Int) + 1))) none = some (0, i + 1, some n) := by
  have e1 : (0 : Int) ≤ (i : Int) + 1 ∧ (i : Int) + 1 ≤ n := by omega
  have e2 : ((i : Int) + 1).toNat = i + 1 := by omega
  simp [bnds, bndO, bnd, e1, e2]
theorem Scr.mem0 {H : Hp} (h : Zz.look H 1 0 = some (ms0.map Mv.cells).flatten) : Scr H (.sref 1 0 0 7 4 (some 4)) ms0 := by
  refine ⟨rfl, fun i hi => ?_⟩
  have hl := look_lt h
  have hi4 : i < 4 := hi
  have hx : MvL (.sval (some 4 == some (i + 1)) (i + 1) ((ms0.take (i + 1)).map Mv.cells).flatten) (ms0.take (i + 1)) := by
    refine ⟨?_, .inr ⟨(some 4 == some (i + 1)), ?_⟩⟩
    · intro c hc
      obtain ⟨p, _, rfl⟩ := List.mem_map.1 hc
      rfl
    · rw [List.length_map, List.length_take, Nat.min_eq_left (by show i + 1 ≤ 4; omega)]
  refine ⟨.sref 1 0 0 7 (i + 1) (some 4), _, fun V => ?_, fun V hV => ?_, hx⟩
  · have e1 : (0 : Int) ≤ (i : Int) + 1 ∧ (i : Int) + 1 ≤ (4 : Nat) := by omega
    have e2 : ((i : Int) + 1).toNat = i + 1 := by omega
    have hb : bnds 4 (some 4) none (some (.int .i64 ((i : Int) + 1))) none = some (0, i + 1, some 4) := bnds_hi (by omega)
    simp [sliceAV, hb]
  · have hv : Zz.look V 1 0 = some (ms0.map Mv.cells).flatten := by rw [look_of_get (hV 1 hl)]; exact h
    have hc : Zz.cut (ms0.map Mv.cells).flatten 0 ((i + 1) * 7) = some ((ms0.take (i + 1)).map Mv.cells).flatten := by
      unfold Zz.cut
      rw [if_pos (by rw [mv_len]; show 0 + (i + 1) * 7 ≤ 4 * 7; omega), List.drop_zero, mv_take]
    have hf : (((ms0.take (i + 1)).map Mv.cells).flatten).all flatAV = true := by
      rw [List.all_eq_true]
      intro v hv
      obtain ⟨c, hc, hvc⟩ := List.mem_flatten.1 hv
      exact List.all_eq_true.1 (mv_flat _ c hc) v hvc
    simp only [Zz.byVal, Zz.byC, hv, hc, hf, if_true]
theorem f4 : WF E30 (.func 4 [] []) [] ⟨[], []⟩ fun y m' => y = .bool true := by
  refine WF.fnE rfl (fn_of Tryd.func4 cir4) (by show 0 ≤ 40; decide) ?_
  unfold ir4; dsimp only [k0, kI, mV, oO, oG]
  simp only [padTo, List.replicate, List.nil_append, List.append_nil, List.cons_append]
  repeat' (first | (refine WO.opE (by intro; simp (disch := omega) only [go_sem, zeros, List.length_append, ov_one0, ov_one1, ov_one2, ov_one3, ov_all2, ov_all3, ov_all4, ov_all5, ov_all6, over7, cut7, cut4b, cut4c, fillP, Option.bind_eq_bind, cellsEq, cellEq, Zz.look, Nat.reduceAdd, Nat.reduceMul, Nat.reduceSub, Nat.reduceLeDiff, Nat.reduceEqDiff, Int.reduceNeg, Int.reduceAdd, Int.reduceToNat, reduceIte, reduceCtorEq, setBlk, List.set_cons_succ, List.set_cons_zero]; rfl) (by simp only [pt8, pt0, pt1, pt2, pt3, pt4, pt5, pt6, pt7]; rfl) ?_) | (refine WO.opN (by intro; simp (disch := omega) only [go_sem, zeros, List.length_append, ov_one0, ov_one1, ov_one2, ov_one3, ov_all2, ov_all3, ov_all4, ov_all5, ov_all6, over7, cut7, cut4b, cut4c, fillP, Option.bind_eq_bind, cellsEq, cellEq, Zz.look, Nat.reduceAdd, Nat.reduceMul, Nat.reduceSub, Nat.reduceLeDiff, Nat.reduceEqDiff, Int.reduceNeg, Int.reduceAdd, Int.reduceToNat, reduceIte, reduceCtorEq, setBlk, List.set_cons_succ, List.set_cons_zero]; rfl) ?_) | (refine WC.seq ?_) | (refine WC.region ?_) | (refine WO.nil ?_) | (simp only [fl1, fl2, fl3, fl4, fl5, fl6, fl7, fl8, fl9, fl10, Nat.reduceBEq]))
  refine WO.call rfl rfl ((f6 (ms := ms0) (n := 3) (k := 0) (Scr.mem0 rfl) (by decide) (by decide) (by decide) (by decide)).mono ?_)
  rintro y _ ⟨rfl, H', rfl, hH⟩
  have e4 : ms0.length = 4 := rfl
  simp only [pt8, pt0, pt1, pt2, pt3, pt4, pt5, pt6, pt7, e4, recs0, len0]
  have h0 : Zz.look H' 0 0 = some [.int .i64 1, .int .i64 0, .int .i64 1, .int .i64 0] := by
    rw [look_of_get (hH 0 (by decide))]
    rfl
  have hl0 := look_lt h0
  have h02 : ∀ R, Zz.look (H' ++ R) 0 0 = some [.int .i64 1, .int .i64 0, .int .i64 1, .int .i64 0] := fun R => by rw [look_left hl0]; exact h0
  have h8 : ∀ m, borrowE E27 8 [.agg [dV (FR rs0h), .int .i64 (23 : Nat)]] m = some (.tuple [.agg [.int .i64 1, .int .i64 1, .int .i64 1, .int .i64 0, .int .i64 1, .int .i64 0], .bool true], m) := fun m => by
    have := s8 dk0 (m := m)
    rw [len0] at this
    exact this
  have hsl : slen (dV (FR rs0h)) = some 23 := by
    have := slV_slen (uB (FR rs0h)) (FR rs0h).length
    rw [len0] at this
    unfold dV
    rw [len0]
    exact this
  have hcd := (dV_ok (FR rs0h)).by.cells
  unfold AV.cells at hcd
  generalize dV (FR rs0h) = B at *
  repeat' (first | (refine WO.yes rfl ?_) | (refine WO.opE (by intro; simp (disch := omega) only [go_sem, zeros, List.length_append, ov_one0, ov_one1, ov_one2, ov_one3, ov_all2, ov_all3, ov_all4, ov_all5, ov_all6, over7, cut7, cut4b, cut4c, fillP, Option.bind_eq_bind, cellsEq, cellEq, Nat.reduceAdd, Nat.reduceMul, Nat.reduceSub, Nat.reduceLeDiff, Nat.reduceEqDiff, Int.reduceNeg, Int.reduceAdd, Int.reduceToNat, reduceIte, reduceCtorEq, h0, h02, hcd, lk0, lk1, lk2, st0, st1, st2, setBlk, List.append_assoc]; rfl) (by simp only [pt8, pt0, pt1, pt2, pt3, pt4, pt5, pt6, pt7]; rfl) ?_) | (refine WO.opN (by intro; simp (disch := omega) only [go_sem, zeros, List.length_append, ov_one0, ov_one1, ov_one2, ov_one3, ov_all2, ov_all3, ov_all4, ov_all5, ov_all6, over7, cut7, cut4b, cut4c, fillP, Option.bind_eq_bind, cellsEq, cellEq, Nat.reduceAdd, Nat.reduceMul, Nat.reduceSub, Nat.reduceLeDiff, Nat.reduceEqDiff, Int.reduceNeg, Int.reduceAdd, Int.reduceToNat, reduceIte, reduceCtorEq, h0, h02, hcd, lk0, lk1, lk2, st0, st1, st2, setBlk, List.append_assoc]; rfl) ?_) | (refine WO.opE (by intro; exact ev_lenS (by simp only [go_sem]; first | rfl | assumption)) (by simp only [pt8, pt0, pt1, pt2, pt3, pt4, pt5, pt6, pt7]; rfl) ?_) | (refine WO.specE rfl rfl (h8 _) (by simp only [pt8, pt0, pt1, pt2, pt3, pt4, pt5, pt6, pt7]; rfl) ?_) | (refine WC.seq ?_) | (refine WC.region ?_) | (refine WO.nil ?_) | (simp only [fl1, fl2, fl3, fl4, fl5, fl6, fl7, fl8, fl9, fl10, Nat.reduceBEq]) | (refine WC.ret ?_))
  exact ⟨_, rfl, rfl⟩
theorem s4 {m : Mem} : borrowE E30 4 [] m = some (.bool true, m) :=
  borrowE_of rfl (f4.mono fun y m' h => by rw [h]; rfl)
noncomputable def E32 : Env := E31.put 4 (borrowE E30 4)
theorem E32_ok : EnvOk Tryd.prog E32 := Env.put_ok E31_ok (borrowE_ok E30_ok (callable Tryd.func4 (by kernel_rfl)))
end Go.Proofs.YtgchabldcnmccaaDoor

