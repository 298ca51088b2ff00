import Derived.Test.YtjbdefmhjmkifaaDoorL11E

set_option linter.unusedSimpArgs false
set_option linter.unusedVariables false
namespace Go.Proofs.YtjbdefmhjmkifaaDoor
open Go.Zz
set_option maxRecDepth 100000
set_option maxHeartbeats 2000000
/-! ### The IDs of a mask -/
def bitv (k : Int) (i : Nat) : Int := IntKind.wrap .u16 ((BitVec.ofInt 16 (k.fdiv (2 ^ (min i 16))) &&& BitVec.ofInt 16 1).toNat : Int)
def pickL (ps : List Pipe) (k : Int) : Nat → List Int
  | 0 => []
  | i + 1 => if bitv k i = 1 then pickL ps k i ++ [(nth ps i).id] else pickL ps k i
theorem resV_of {H : Hp} {v x : AV} (h : resC H v = some x) : resV H v = some x := by
  cases v <;> first | exact h | (simp [Zz.resC] at h)
noncomputable def E34 : Env := E33.put 12 (borrowE E33 12)
theorem E34_ok : EnvOk Tryd.prog E34 := Env.put_ok E33_ok (borrowE_ok E33_ok (callable Tryd.func12 (by kernel_rfl)))
/-- All. -/
theorem f17 {pv : AV} {ps : List Pipe} {sup tol : Int} (hq : PpL pv ps) (hmax : ps.length ≤ 120) : WF E34 (.func 17 [] []) [.agg [pv, .int .i64 sup, .int .i64 tol]] ⟨[], []⟩ fun y m' => ∃ x, IntS x (idsOf ps) ∧ resV m'.heap y = some x := by
  have hlen := hq.len
  refine WF.fnE rfl (fn_of Tryd.func17 cir17) (by show 1 ≤ 22; decide) ?_
  unfold ir17
  simp only [padTo, List.replicate, List.nil_append, List.append_nil, List.cons_append]
  repeat' (first | (refine WO.opE (by intro; simp (disch := omega) only [go_sem, zeros, Zz.look, List.append_assoc, List.length_append, ov_one0, ov_all2, ov_all6, Nat.reduceAdd, Nat.reduceMul, Nat.reduceSub, Nat.reduceLeDiff, Nat.reduceEqDiff, Int.reduceNeg, Int.reduceAdd, Int.reduceToNat, reduceIte, reduceCtorEq]; rfl) (by simp only [pt8, pt0, pt1, pt2, pt3, pt4, pt5, pt6, pt7]; rfl) ?_) | (refine WC.seq ?_) | (refine WC.region ?_) | (refine WO.nil ?_) | (simp only [fl1, fl2, fl3, fl4, fl5, fl6, fl7, fl8, fl9, fl10, Nat.reduceBEq]) | (refine WC.block ?_))
  refine WC.loopI (fun m s => ∃ T H i v q, s = ⟨T, H, []⟩ ∧ T.length = 22 ∧ gt T 1 = .pref 0 0 0 ∧ gt T 3 = v ∧ gt T 4 = .int .i64 (i : Nat) ∧ m + i = ps.length ∧ Zz.look H 0 0 = some [pv, .int .i64 sup, .int .i64 tol] ∧ GS 1 H v q (((idsOf ps).take i).map (.int .i64)) ∧ 1 ≤ q) ?_ ps.length _ ⟨_, _, 0, _, 1, rfl, rfl, rfl, rfl, rfl, by omega, rfl, .inl ⟨rfl, rfl⟩, by omega⟩
  rintro m _ ⟨T, H, i, v, q, rfl, hT, g1, g3, g4, hm, k0, hg, hq1⟩
  obtain ⟨f, rfl⟩ := ex22 hT
  clear hT
  replace g1 : f 1 = .pref 0 0 0 := g1
  replace g3 : f 3 = v := g3
  replace g4 : f 4 = .int .i64 (i : Nat) := g4
  simp only [g1, g3, g4]
  have l0 := look_lt k0
  by_cases hin : i < ps.length
  · have hid : (idsOf ps).getD i 0 = (nth ps i).id := by simp [idsOf, nth, List.getD_eq_getElem?_getD, hin]
    obtain ⟨v', q', H1, e1, a1, a2, a3, a4⟩ := (hg.more [some ⟨0, [.int .i64 (nth ps i).id]⟩]).append (L := []) (bytes := 8) (n := 1) (cap := some 1) (id := H.length) (lk0 rfl) rfl Nat.one_pos Nat.one_pos ⟨by rw [Nat.div_one]; simp; omega, by rw [Nat.div_one]; simp; omega⟩
    have hkk : ∀ j, j < H.length → j ≠ q → H1[j]? = H[j]? := fun j h1 h2 => by rw [a4 j (by simp; omega) h2, List.getElem?_append_left h1]
    have t1 : ((idsOf ps).take i).map (AV.int .i64) ++ [.int .i64 (nth ps i).id] = ((idsOf ps).take (i + 1)).map (.int .i64) := by
      rw [List.take_add_one, List.map_append, ← hid, List.getD_eq_getElem?_getD, List.getElem?_eq_getElem (by simpa [idsOf] using hin)]
      rfl
    rw [t1] at a1
    repeat' (first | (refine WO.opE (by intro; simp (disch := omega) only [go_sem, zeros, List.append_assoc, List.length_append, ov_all6, ov_one0, Nat.reduceAdd, Nat.reduceMul, Nat.reduceSub, Nat.reduceLeDiff, Nat.reduceEqDiff, Int.reduceNeg, Int.reduceAdd, Int.reduceToNat, reduceIte, reduceCtorEq, hq.at, lk0, st0, k0, look_left]; rfl) (by simp only [pt8, pt0, pt1, pt2, pt3, pt4, pt5, pt6, pt7]; rfl) ?_) | (refine WO.opE (by intro; exact ev_lenS (by simp only [go_sem]; first | rfl | assumption)) (by simp only [pt8, pt0, pt1, pt2, pt3, pt4, pt5, pt6, pt7]; rfl) ?_) | (refine WO.opE (by intro; rw [ev_append]; exact e1) (by simp only [pt8, pt0, pt1, pt2, pt3, pt4, pt5, pt6, pt7]; rfl) ?_) | (refine WC.seq ?_) | (refine WC.region ?_) | (refine WO.nil ?_) | (simp only [fl1, fl2, fl3, fl4, fl5, fl6, fl7, fl8, fl9, fl10, Nat.reduceBEq]) | (refine WC.skip ?_) | (refine WC.block ?_) | (refine WC.em2 rfl (fun hp => ?_) (fun hp => ?_) <;> try (exfalso; first | omega | contradiction)))
    refine ⟨m - 1, by omega, _, _, i + 1, v', q', rfl, rfl, rfl, rfl, rfl, by omega, ?_, a1, ?_⟩
    · rw [look_of_get (hkk 0 (by omega) (by omega))]; exact k0
    · rcases a2 with rfl | rfl <;> first | omega | (simp; done) | (simp; omega)
  · have hi' : i = ps.length := by omega
    subst hi'
    repeat' (first | (refine WO.opE (by intro; simp (disch := omega) only [go_sem, zeros, List.append_assoc, List.length_append, ov_all6, ov_one0, Nat.reduceAdd, Nat.reduceMul, Nat.reduceSub, Nat.reduceLeDiff, Nat.reduceEqDiff, Int.reduceNeg, Int.reduceAdd, Int.reduceToNat, reduceIte, reduceCtorEq, k0]; rfl) (by simp only [pt8, pt0, pt1, pt2, pt3, pt4, pt5, pt6, pt7]; rfl) ?_) | (refine WO.opE (by intro; exact ev_lenS (by simp only [go_sem]; first | rfl | assumption)) (by simp only [pt8, pt0, pt1, pt2, pt3, pt4, pt5, pt6, pt7]; rfl) ?_) | (refine WC.seq ?_) | (refine WC.region ?_) | (refine WO.nil ?_) | (simp only [fl1, fl2, fl3, fl4, fl5, fl6, fl7, fl8, fl9, fl10, Nat.reduceBEq]) | (refine WC.exit ?_) | (refine WC.ret ?_) | (refine WC.em2 rfl (fun hp => ?_) (fun hp => ?_) <;> try (exfalso; first | omega | contradiction)))
    have etk : (idsOf ps).take ps.length = idsOf ps := by
      have hil : (idsOf ps).length = ps.length := by simp [idsOf]
      rw [← hil, List.take_length]
    rw [etk] at hg
    obtain ⟨x, x1, x2, _⟩ := gs_res hg
    exact ⟨_, rfl, x, x1, resV_of x2⟩
theorem s17 {pv : AV} {ps : List Pipe} {sup tol : Int} (hq : PpL pv ps) (hmax : ps.length ≤ 120) : ∃ x, IntS x (idsOf ps) ∧ ∀ m, borrowE E34 17 [.agg [pv, .int .i64 sup, .int .i64 tol]] m = some (x, m) := by
  obtain ⟨n, y, m', h1, x, x1, x2⟩ := (f17 (sup := sup) (tol := tol) hq hmax).ex
  exact ⟨x, x1, fun m => borrowE_of (pures_cons (pure3 hq.pureC) rfl) ⟨⟨n, y, m', h1, x2⟩⟩⟩

noncomputable def E35 : Env := E34.put 17 (borrowE E34 17)
theorem E35_ok : EnvOk Tryd.prog E35 := Env.put_ok E34_ok (borrowE_ok E34_ok (callable Tryd.func17 (by kernel_rfl)))
end Go.Proofs.YtjbdefmhjmkifaaDoor


set_option linter.unusedSimpArgs false
set_option linter.unusedVariables false
namespace Go.Proofs.YtjbdefmhjmkifaaDoor
open Go.Zz
set_option maxRecDepth 100000
set_option maxHeartbeats 4000000
/-! ### Equal lists -/
theorem f34 {av bv : AV} {us ws : List Int} (ha : IntS av us) (hb : IntS bv ws) (h1 : us.length < 9223372036854775807) (h2 : ws.length < 9223372036854775807) : WF E35 (.func 34 [] []) [av, bv] ⟨[], []⟩ fun y m' => y = .bool (decide (us = ws)) := by
  have hal := ha.len
  have hbl := hb.len
  refine WF.fnE rfl (fn_of Tryd.func34 cir34) (by show 2 ≤ 26; decide) ?_
  unfold ir34
  simp only [padTo, List.replicate, List.nil_append, List.append_nil, List.cons_append]
  repeat' (first | (refine WO.opE (by intro; simp (disch := omega) only [go_sem, zeros, Zz.look, Zz.over, Zz.cut, List.append_assoc, List.length_append, Nat.reduceAdd, Nat.reduceMul, Nat.reduceSub, Nat.reduceLeDiff, Nat.reduceEqDiff, Int.reduceNeg, Int.reduceAdd, Int.reduceToNat, reduceIte, reduceCtorEq]; rfl) (by simp only [pt8, pt0, pt1, pt2, pt3, pt4, pt5, pt6, pt7]; rfl) ?_) | (refine WO.opE (by intro; exact ev_lenS (by simp only [go_sem]; first | rfl | assumption)) (by simp only [pt8, pt0, pt1, pt2, pt3, pt4, pt5, pt6, pt7]; rfl) ?_) | (refine WC.seq ?_) | (refine WC.region ?_) | (refine WO.nil ?_) | (simp only [fl1, fl2, fl3, fl4, fl5, fl6, fl7, fl8, fl9, fl10, Nat.reduceBEq]) | (refine WC.skip ?_) | (refine WC.ret ?_) | (refine WC.block ?_) | (refine WC.em2 rfl (fun hp => ?_) (fun hp => ?_) <;> try (exfalso; first | omega | contradiction)))
  · refine ⟨_, rfl, ?_⟩
    simp only [oneRes, gt8, gt0, gt1, gt2, gt3, gt4, gt5, gt6, gt7, AV.bool.injEq]
    symm
    rw [decide_eq_false_iff_not]
    intro e
    rw [e] at hp
    exact hp rfl
  have hl : us.length = ws.length := by omega
  refine WC.loopI (fun m s => ∃ T i, s = ⟨T, [], []⟩ ∧ T.length = 26 ∧ gt T 0 = av ∧ gt T 1 = bv ∧ gt T 5 = .int .i64 (i : Nat) ∧ m + i = us.length ∧ ∀ j, j < i → us.getD j 0 = ws.getD j 0) ?_ us.length _ ⟨_, 0, rfl, rfl, rfl, rfl, rfl, by omega, fun j hj => by omega⟩
  rintro m _ ⟨T, i, rfl, hT, g0, g1, g5, hm, hi⟩
  obtain ⟨f, rfl⟩ := ex26 hT
  clear hT
  replace g0 : f 0 = av := g0
  replace g1 : f 1 = bv := g1
  replace g5 : f 5 = .int .i64 (i : Nat) := g5
  simp only [g0, g1, g5]
  by_cases hin : i < us.length
  · have e0 := hin
    repeat' (first | (refine WO.opE (by intro; simp (disch := omega) only [go_sem, zeros, Zz.look, Zz.over, Zz.cut, List.append_assoc, List.length_append, Nat.reduceAdd, Nat.reduceMul, Nat.reduceSub, Nat.reduceLeDiff, Nat.reduceEqDiff, Int.reduceNeg, Int.reduceAdd, Int.reduceToNat, reduceIte, reduceCtorEq, ha.atI, hb.atI]; rfl) (by simp only [pt8, pt0, pt1, pt2, pt3, pt4, pt5, pt6, pt7]; rfl) ?_) | (refine WO.opE (by intro; exact ev_lenS (by simp only [go_sem]; first | rfl | assumption)) (by simp only [pt8, pt0, pt1, pt2, pt3, pt4, pt5, pt6, pt7]; rfl) ?_) | (refine WC.seq ?_) | (refine WC.region ?_) | (refine WO.nil ?_) | (simp only [fl1, fl2, fl3, fl4, fl5, fl6, fl7, fl8, fl9, fl10, Nat.reduceBEq]) | (refine WC.calm rfl ?_) | (refine WC.skip ?_) | (refine WC.ret ?_) | (refine WC.block ?_) | (refine WC.em2 rfl (fun hp => ?_) (fun hp => ?_) <;> try (exfalso; first | omega | contradiction)))
    · refine ⟨_, rfl, ?_⟩
      simp only [oneRes, gt8, gt0, gt1, gt2, gt3, gt4, gt5, gt6, gt7, AV.bool.injEq]
      symm
      rw [decide_eq_false_iff_not]
      intro e
      rw [e] at hp
      exact hp rfl
    · exact ⟨m - 1, by omega, _, i + 1, rfl, rfl, rfl, rfl, rfl, by omega, fun j hj => by
        by_cases e : j = i
        · subst e; exact Decidable.of_not_not hp
        · exact hi j (by omega)⟩
  · have e0 := hin
    repeat' (first | (refine WO.opE (by intro; simp (disch := omega) only [go_sem, zeros, Zz.look, Zz.over, Zz.cut, List.append_assoc, List.length_append, Nat.reduceAdd, Nat.reduceMul, Nat.reduceSub, Nat.reduceLeDiff, Nat.reduceEqDiff, Int.reduceNeg, Int.reduceAdd, Int.reduceToNat, reduceIte, reduceCtorEq, ha.atI, hb.atI]; rfl) (by simp only [pt8, pt0, pt1, pt2, pt3, pt4, pt5, pt6, pt7]; rfl) ?_) | (refine WO.opE (by intro; exact ev_lenS (by simp only [go_sem]; first | rfl | assumption)) (by simp only [pt8, pt0, pt1, pt2, pt3, pt4, pt5, pt6, pt7]; rfl) ?_) | (refine WC.seq ?_) | (refine WC.region ?_) | (refine WO.nil ?_) | (simp only [fl1, fl2, fl3, fl4, fl5, fl6, fl7, fl8, fl9, fl10, Nat.reduceBEq]) | (refine WC.exit ?_) | (refine WC.ret ?_) | (refine WC.em2 rfl (fun hp => ?_) (fun hp => ?_) <;> try (exfalso; first | omega | contradiction)))
    · refine ⟨_, rfl, ?_⟩
      simp only [oneRes, gt8, gt0, gt1, gt2, gt3, gt4, gt5, gt6, gt7, AV.bool.injEq]
      symm
      rw [decide_eq_true_iff]
      apply List.ext_getElem hl
      intro j g1 g2
      have := hi j (by omega)
      rwa [List.getD_eq_getElem?_getD, List.getD_eq_getElem?_getD, List.getElem?_eq_getElem g1, List.getElem?_eq_getElem g2] at this
theorem s34 {av bv av' bv' : AV} {us ws : List Int} (ha : IntS av us) (hb : IntS bv ws) (h1 : us.length < 9223372036854775807) (h2 : ws.length < 9223372036854775807) {m : Mem} (e1 : Zz.byVal m.heap av' = some av) (e2 : Zz.byVal m.heap bv' = some bv) : borrowX E35 34 [av', bv'] m = some (.bool (decide (us = ws)), m) :=
  borrowX_of (byVals_cons e1 (byVals_cons e2 rfl)) ((f34 ha hb h1 h2).mono fun y m' h => by rw [h]; rfl)

noncomputable def E36 : Env := E35.put 34 (borrowX E35 34)
theorem E36_ok : EnvOk Tryd.prog E36 := Env.put_ok E35_ok (borrowX_ok E35_ok (callable Tryd.func34 (by kernel_rfl)))
/-! ### The examples -/
def exPs : List Pipe := [⟨1, 0, 0, 0, 0, 0, 0, 5, 1000000, 30000000⟩, ⟨2, -12, 12, 0, 0, 0, 0, 4, 1000000, 30000000⟩, ⟨3, -12, 12, 0, 0, 0, 0, 8, 0, 0⟩]
def exPv : AV := .sval true 3 (exPs.map Pipe.cells).flatten
theorem exPv_ok : PpL exPv exPs := ⟨by
  intro c hc
  obtain ⟨r, _, rfl⟩ := List.mem_map.1 hc
  rfl, .inr ⟨true, rfl⟩⟩
theorem s37 {m : Mem} : borrowE E36 37 [] m = some (.agg [exPv, .int .i64 8, .int .i64 100], m) := by
  refine borrowE_of rfl ?_
  refine WF.fnE rfl (fn_of Tryd.func37 cir37) (by show 0 ≤ 8; decide) ?_
  unfold ir37
  simp only [padTo, List.replicate, List.nil_append, List.append_nil, List.cons_append]
  repeat' (first | (refine WO.opE (by intro; simp (disch := omega) only [go_sem, zeros, Zz.look, Zz.over, Zz.cut, List.append_assoc, List.length_append, Nat.reduceAdd, Nat.reduceMul, Nat.reduceSub, Nat.reduceLeDiff, Nat.reduceEqDiff, Int.reduceNeg, Int.reduceAdd, Int.reduceToNat, reduceIte, reduceCtorEq, fillP, Option.bind_eq_bind]; rfl) (by simp only [pt8, pt0, pt1, pt2, pt3, pt4, pt5, pt6, pt7]; rfl) ?_) | (refine WO.opN (by intro; simp (disch := omega) only [go_sem, zeros, Zz.look, Zz.over, Zz.cut, List.append_assoc, List.length_append, Nat.reduceAdd, Nat.reduceMul, Nat.reduceSub, Nat.reduceLeDiff, Nat.reduceEqDiff, Int.reduceNeg, Int.reduceAdd, Int.reduceToNat, reduceIte, reduceCtorEq, fillP, Option.bind_eq_bind]; rfl) ?_) | (refine WC.seq ?_) | (refine WC.region ?_) | (refine WO.nil ?_) | (simp only [fl1, fl2, fl3, fl4, fl5, fl6, fl7, fl8, fl9, fl10, Nat.reduceBEq]) | (refine WC.ret ?_))
  exact ⟨_, rfl, rfl⟩

noncomputable def E37 : Env := E36.put 37 (borrowE E36 37)
theorem E37_ok : EnvOk Tryd.prog E37 := Env.put_ok E36_ok (borrowE_ok E36_ok (callable Tryd.func37 (by kernel_rfl)))
def fif : V6 := ⟨-1, 1, 0, 0, 0, 0⟩
def uni : V6 := ⟨0, 0, 0, 0, 0, 0⟩
def v2 (a b : V6) : AV := .sval true 2 ([a, b].map V6.cells).flatten
theorem v2_ok (a b : V6) : VL6 (v2 a b) [a, b] := ⟨by
  intro c hc
  obtain ⟨r, _, rfl⟩ := List.mem_map.1 hc
  rfl, .inr ⟨true, rfl⟩⟩
theorem x1 : setE exPs 8 100 [1, 2] 0 = 0 := by decide
theorem x2 : dem exPs [1, 2] = 9 := by decide
theorem x3 : setE exPs 8 100 [1, 2] 1 = 0 := by decide
theorem x4 : setE exPs 8 100 [1, 2, 3] 0 = 0 := by decide
theorem x5 : shiftOf (pipeOf exPs 1) (lacks exPs 8 [1, 2]) 0 = -1000000 := by decide
theorem x6 : shiftOf (pipeOf exPs 1) (lacks exPs 8 [1, 2]) 1 = 29000000 := by decide
theorem x7 : rangeV exPs 8 100 2 0 0 = .tuple [.agg [.int .i64 (-9000000), .int .i64 0], .int .i64 0] := by
  have h1 : rangeOk exPs 8 100 0 0 := by decide
  have h2 : pos exPs 2 < exPs.length := by decide
  unfold rangeV
  rw [if_pos h1, if_pos h2]
  rfl
theorem x8 : Stead exPs 100 [1, 2] (lacks exPs 8 [1, 2]) 0 := by decide
theorem x9 : ¬ Stead exPs 100 [1, 2, 3] (lacks exPs 8 [1, 2, 3]) 0 := by decide
theorem x10 : needV exPs 8 100 [1, 2, 3] 0 = (16, 0) := by decide
theorem x11 : chordE exPs 8 100 [fif, uni] 0 = 0 := by decide +kernel
theorem x12 : findC exPs 8 100 [fif, uni] 0 = some [2, 1] := by decide +kernel
theorem x13 : chordE exPs 8 100 [fif, fif] 0 = 21 := by decide +kernel
theorem x14 : findL exPs 100 fif 3 = [2, 3] := by decide +kernel
theorem x15 : VO exPs 8 100 ∧ fif.ok 48 := by decide
end Go.Proofs.YtjbdefmhjmkifaaDoor


set_option linter.unusedSimpArgs false
set_option linter.unusedVariables false
namespace Go.Proofs.YtjbdefmhjmkifaaDoor
open Go.Zz
set_option maxRecDepth 100000
set_option maxHeartbeats 4000000
/-! ### What the examples are worth -/
def i2 (a b : Int) : AV := .sval true 2 [.int .i64 a, .int .i64 b]
def i3 (a b c : Int) : AV := .sval true 3 [.int .i64 a, .int .i64 b, .int .i64 c]
theorem i2_ok (a b : Int) : IntS (i2 a b) [a, b] := .inr ⟨true, rfl⟩
theorem i3_ok (a b c : Int) : IntS (i3 a b c) [a, b, c] := .inr ⟨true, rfl⟩
theorem c13 {iv' : AV} {m : Mem} (h : Zz.byVal m.heap iv' = some (i2 1 2)) : borrowX E10 13 [.agg [exPv, .int .i64 8, .int .i64 100], iv'] m = some (.tuple [.int .i64 9, .int .i64 0], m) := by
  have e := s13 (sup := 8) (tol := 100) exPv_ok (by decide) (i2_ok 1 2) (by decide) h
  rw [x1, x2, if_pos rfl] at e
  exact e
theorem c15a {iv' : AV} {m : Mem} (h : Zz.byVal m.heap iv' = some (i2 1 2)) : borrowX E13 15 [.agg [exPv, .int .i64 8, .int .i64 100], iv', .int .i64 1, .int .i64 0] m = some (.tuple [.int .i64 (-1000000), .int .i64 0], m) := by
  have e := s15 (sup := 8) (tol := 100) (id := 1) (warm := 0) exPv_ok (by decide) (i2_ok 1 2) (by decide) h
  rw [x1, x5, if_pos ⟨rfl, by decide⟩, if_pos rfl, if_pos (by decide)] at e
  exact e
theorem c15b {iv' : AV} {m : Mem} (h : Zz.byVal m.heap iv' = some (i2 1 2)) : borrowX E13 15 [.agg [exPv, .int .i64 8, .int .i64 100], iv', .int .i64 1, .int .i64 1] m = some (.tuple [.int .i64 29000000, .int .i64 0], m) := by
  have e := s15 (sup := 8) (tol := 100) (id := 1) (warm := 1) exPv_ok (by decide) (i2_ok 1 2) (by decide) h
  rw [x3, x6, if_pos ⟨rfl, by decide⟩, if_pos rfl, if_pos (by decide)] at e
  exact e
theorem c16 {m : Mem} : borrowE E8 16 [.agg [exPv, .int .i64 8, .int .i64 100], .int .i64 2, .int .i64 0, .int .i64 0] m = some (.tuple [.agg [.int .i64 (-9000000), .int .i64 0], .int .i64 0], m) := by
  have e := s16 (sup := 8) (tol := 100) (id := 2) (cold := 0) (hot := 0) (m := m) exPv_ok (by decide)
  rw [x7] at e
  exact e
theorem c20a {iv' : AV} {m : Mem} (h : Zz.byVal m.heap iv' = some (i2 1 2)) : borrowX E15 20 [.agg [exPv, .int .i64 8, .int .i64 100], iv', .int .i64 0] m = some (.tuple [.bool true, .int .i64 0], m) := by
  have e := s20 (sup := 8) (tol := 100) (warm := 0) exPv_ok (by decide) (i2_ok 1 2) (by decide) h
  rw [x1, decide_eq_true (show (0 : Int) = 0 ∧ _ from ⟨rfl, x8⟩)] at e
  exact e
theorem c20b {iv' : AV} {m : Mem} (h : Zz.byVal m.heap iv' = some (i3 1 2 3)) : borrowX E15 20 [.agg [exPv, .int .i64 8, .int .i64 100], iv', .int .i64 0] m = some (.tuple [.bool false, .int .i64 0], m) := by
  have e := s20 (sup := 8) (tol := 100) (warm := 0) exPv_ok (by decide) (i3_ok 1 2 3) (by decide) h
  rw [x4, decide_eq_false (show ¬ ((0 : Int) = 0 ∧ _) from fun g => x9 g.2)] at e
  exact e
theorem c19 {iv' : AV} {m : Mem} (h : Zz.byVal m.heap iv' = some (i3 1 2 3)) : borrowX E16 19 [.agg [exPv, .int .i64 8, .int .i64 100], iv', .int .i64 0] m = some (.tuple [.int .i64 16, .int .i64 0], m) := by
  have e := s19 (sup := 8) (tol := 100) (warm := 0) exPv_ok (by decide) (i3_ok 1 2 3) (by decide) h
  rw [x10] at e
  exact e
theorem c21a : ∃ x, IntS x [2, 1] ∧ ∀ m vv', Zz.byVal m.heap vv' = some (v2 fif uni) → borrowX E32 21 [.agg [exPv, .int .i64 8, .int .i64 100], vv', .int .i64 0] m = some (.tuple [x, .int .i64 0], m) := by
  obtain ⟨x, h1, _, h3⟩ := s21 (sup := 8) (tol := 100) (w := 0) exPv_ok (by decide) (v2_ok fif uni) (by decide)
  obtain ⟨r, hr, hx⟩ := h1 x11
  rw [x12] at hr
  cases hr
  rw [x11] at h3
  exact ⟨x, hx, h3⟩
theorem c21b : ∃ x, ∀ m vv', Zz.byVal m.heap vv' = some (v2 fif fif) → borrowX E32 21 [.agg [exPv, .int .i64 8, .int .i64 100], vv', .int .i64 0] m = some (.tuple [x, .int .i64 21], m) := by
  obtain ⟨x, h1, _, h3⟩ := s21 (sup := 8) (tol := 100) (w := 0) exPv_ok (by decide) (v2_ok fif fif) (by decide)
  rw [x13] at h3
  exact ⟨x, h3⟩
theorem c35 : ∃ x, IntS x [2, 3] ∧ ∀ m, borrowE E28 35 [.agg [exPv, .int .i64 8, .int .i64 100], .agg fif.cells] m = some (.tuple [x, .int .i64 0], m) := by
  obtain ⟨x, h1, _, h3⟩ := s35 (sup := 8) (tol := 100) (w := fif) exPv_ok (by decide)
  have e := (h1 x15).1
  rw [show exPs.length = 3 from rfl, x14] at e
  rw [if_pos x15] at h3
  exact ⟨x, e, h3⟩
theorem f11 : WF E37 (.func 11 [] []) [] ⟨[], []⟩ fun y m' => y = .bool true := by
  obtain ⟨xa, ha, ca⟩ := c21a
  obtain ⟨xb, cb⟩ := c21b
  obtain ⟨xc, hc, cc⟩ := c35
  have hal := ha.cells
  have hcl := hc.cells
  have q1 : decide ([(2 : Int), 1] = [2, 1]) = true := by decide
  have q2 : decide ([(2 : Int), 3] = [2, 3]) = true := by decide
  refine WF.fnE rfl (fn_of Tryd.func11 cir11) (by show 0 ≤ 167; decide) ?_
  unfold ir11
  simp only [padTo, List.replicate, List.nil_append, List.append_nil, List.cons_append]
  repeat' (first | (refine WO.yes rfl ?_) | (refine WO.opE (by intro; simp (disch := omega) only [go_sem, zeros, Zz.look, Zz.over, Zz.cut, List.append_assoc, List.length_append, Nat.reduceAdd, Nat.reduceMul, Nat.reduceSub, Nat.reduceLeDiff, Nat.reduceEqDiff, Int.reduceNeg, Int.reduceAdd, Int.reduceToNat, reduceIte, reduceCtorEq, fillP, Option.bind_eq_bind, cut6, ov_all6, List.all_cons, List.all_nil, List.zipWith]; rfl) (by simp only [pt8, pt0, pt1, pt2, pt3, pt4, pt5, pt6, pt7]; rfl) ?_) | (refine WO.opN (by intro; simp (disch := omega) only [go_sem, zeros, Zz.look, Zz.over, Zz.cut, List.append_assoc, List.length_append, Nat.reduceAdd, Nat.reduceMul, Nat.reduceSub, Nat.reduceLeDiff, Nat.reduceEqDiff, Int.reduceNeg, Int.reduceAdd, Int.reduceToNat, reduceIte, reduceCtorEq, fillP, Option.bind_eq_bind, cut6, ov_all6, List.all_cons, List.all_nil, List.zipWith]; rfl) ?_) | (refine WO.specE rfl rfl (s37) (by simp only [pt8, pt0, pt1, pt2, pt3, pt4, pt5, pt6, pt7]; rfl) ?_) | (refine WO.specE rfl rfl (c13 (by rfl)) (by simp only [pt8, pt0, pt1, pt2, pt3, pt4, pt5, pt6, pt7]; rfl) ?_) | (refine WO.specE rfl rfl (c15a (by rfl)) (by simp only [pt8, pt0, pt1, pt2, pt3, pt4, pt5, pt6, pt7]; rfl) ?_) | (refine WO.specE rfl rfl (c15b (by rfl)) (by simp only [pt8, pt0, pt1, pt2, pt3, pt4, pt5, pt6, pt7]; rfl) ?_) | (refine WO.specE rfl rfl (c16) (by simp only [pt8, pt0, pt1, pt2, pt3, pt4, pt5, pt6, pt7]; rfl) ?_) | (refine WO.specE rfl rfl (c20a (by rfl)) (by simp only [pt8, pt0, pt1, pt2, pt3, pt4, pt5, pt6, pt7]; rfl) ?_) | (refine WO.specE rfl rfl (c20b (by rfl)) (by simp only [pt8, pt0, pt1, pt2, pt3, pt4, pt5, pt6, pt7]; rfl) ?_) | (refine WO.specE rfl rfl (c19 (by rfl)) (by simp only [pt8, pt0, pt1, pt2, pt3, pt4, pt5, pt6, pt7]; rfl) ?_) | (refine WO.specE rfl rfl (ca _ _ (by rfl)) (by simp only [pt8, pt0, pt1, pt2, pt3, pt4, pt5, pt6, pt7]; rfl) ?_) | (refine WO.specE rfl rfl (cb _ _ (by rfl)) (by simp only [pt8, pt0, pt1, pt2, pt3, pt4, pt5, pt6, pt7]; rfl) ?_) | (refine WO.specE rfl rfl (cc _) (by simp only [pt8, pt0, pt1, pt2, pt3, pt4, pt5, pt6, pt7]; rfl) ?_) | (refine WO.specE rfl rfl (s34 ha (i2_ok 2 1) (by decide) (by decide) (ha.byVal _) (by rfl)) (by simp only [pt8, pt0, pt1, pt2, pt3, pt4, pt5, pt6, pt7]; rfl) ?_) | (refine WO.specE rfl rfl (s34 hc (i2_ok 2 3) (by decide) (by decide) (hc.byVal _) (by rfl)) (by simp only [pt8, pt0, pt1, pt2, pt3, pt4, pt5, pt6, pt7]; rfl) ?_) | (refine WC.seq ?_) | (refine WC.region ?_) | (refine WO.nil ?_) | (simp only [fl1, fl2, fl3, fl4, fl5, fl6, fl7, fl8, fl9, fl10, Nat.reduceBEq]) | (refine WC.ret ?_))
  all_goals (refine ⟨_, rfl, ?_⟩; first | rfl | (simp only [oneRes, gt8, gt0, gt1, gt2, gt3, gt4, gt5, gt6, gt7, q1, q2]; first | done | rfl))
theorem s11 {m : Mem} : borrowE E37 11 [] m = some (.bool true, m) := borrowE_of rfl (f11.mono fun y m' h => by rw [h]; rfl)

noncomputable def E38 : Env := E37.put 11 (borrowE E37 11)
theorem E38_ok : EnvOk Tryd.prog E38 := Env.put_ok E37_ok (borrowE_ok E37_ok (callable Tryd.func11 (by kernel_rfl)))
end Go.Proofs.YtjbdefmhjmkifaaDoor

