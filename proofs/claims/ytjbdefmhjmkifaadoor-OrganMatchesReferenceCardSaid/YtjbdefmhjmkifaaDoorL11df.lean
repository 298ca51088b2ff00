import Derived.Test.YtjbdefmhjmkifaaDoorIr11xc10
import Derived.Test.YtjbdefmhjmkifaaDoorL11de
import Derived.Test.YtjbdefmhjmkifaaDoorL11pc

set_option linter.unusedSimpArgs false
set_option linter.unusedVariables false
namespace Go.Proofs.YtjbdefmhjmkifaaDoor
open Go.Zz
set_option maxRecDepth 100000
set_option maxHeartbeats 8000000
/-! ### Sizes -/
theorem f66 {v : V6} (hv : v.ok 576) : WF D9 (.func 66 [] []) [.agg v.cells] ⟨[], []⟩ fun y m' => y = .tuple [.agg [.int .i64 (eLo v.l 6), .int .i64 (eHi v.l 6)], .int .i64 0] := by
  have hs := V6.small hv (by omega)
  obtain ⟨a0, a1, a2, a3, a4, a5⟩ := v
  have h1 : wi6 a0 a1 a2 a3 a4 a5 576 := hv
  have hs' : Small [a0, a1, a2, a3, a4, a5] := hs
  refine WF.fnE rfl (fn_of Tryd.func66 cir66) (by show 1 ≤ 10; decide) ?_
  unfold ir66
  simp only [padTo, List.replicate, List.nil_append, List.append_nil, List.cons_append]
  repeat' (first | (refine WO.opE (by intro; simp (disch := omega) only [go_sem, zeros, Zz.look, List.append_assoc, List.length_append, ov_one0, ov_all2, ov_all6, Nat.reduceAdd, Nat.reduceMul, Nat.reduceSub, Nat.reduceLeDiff, Nat.reduceEqDiff, Int.reduceNeg, Int.reduceAdd, Int.reduceToNat, reduceIte, reduceCtorEq, V6.cells]; rfl) (by simp only [pt8, pt0, pt1, pt2, pt3, pt4, pt5, pt6, pt7]; rfl) ?_) | (refine WO.opN (by intro; simp (disch := omega) only [go_sem, zeros, Zz.look, List.append_assoc, List.length_append, ov_one0, ov_all2, ov_all6, Nat.reduceAdd, Nat.reduceMul, Nat.reduceSub, Nat.reduceLeDiff, Nat.reduceEqDiff, Int.reduceNeg, Int.reduceAdd, Int.reduceToNat, reduceIte, reduceCtorEq, V6.cells]; rfl) ?_) | (refine WO.specE rfl rfl (s61) (by simp only [pt8, pt0, pt1, pt2, pt3, pt4, pt5, pt6, pt7]; rfl) ?_) | (refine WO.specE rfl rfl (s80 hs') (by simp only [pt8, pt0, pt1, pt2, pt3, pt4, pt5, pt6, pt7]; rfl) ?_) | (refine WC.seq ?_) | (refine WC.region ?_) | (refine WO.nil ?_) | (simp only [fl1, fl2, fl3, fl4, fl5, fl6, fl7, fl8, fl9, fl10, Nat.reduceBEq]) | (refine WC.skip ?_) | (refine WC.ret ?_) | (refine WC.em2 rfl (fun hp => ?_) (fun hp => ?_) <;> try (exfalso; first | omega | contradiction)))
  exact ⟨_, rfl, rfl⟩
theorem s66 {v : V6} (hv : v.ok 576) {m : Mem} : borrowE D9 66 [.agg v.cells] m = some (.tuple [.agg [.int .i64 (eLo v.l 6), .int .i64 (eHi v.l 6)], .int .i64 0], m) := borrowE_of rfl ((f66 hv).mono fun y m' h => by rw [h]; rfl)

noncomputable def D10 : Env := D9.put 66 (borrowE D9 66)
theorem D10_ok : EnvOk Tryd.prog D10 := Env.put_ok D9_ok (borrowE_ok D9_ok (callable Tryd.func66 (by kernel_rfl)))
def pcell (p : Int × Int) : List AV := [.int .i64 p.1, .int .i64 p.2]
def PrL (x : AV) (l : List (Int × Int)) : Prop := SL 2 x (l.map pcell)
def flat2 (l : List (Int × Int)) : List AV := (l.map pcell).flatten
theorem flat2_len (l : List (Int × Int)) : (flat2 l).length = l.length * 2 := by
  unfold flat2
  rw [flat_len (k := 2) (fun c hc => by obtain ⟨p, _, rfl⟩ := List.mem_map.1 hc; rfl), List.length_map]
theorem flat2_app (a b : List (Int × Int)) : flat2 (a ++ b) = flat2 a ++ flat2 b := by unfold flat2; rw [List.map_append, List.flatten_append]
theorem flat2_flat (l : List (Int × Int)) : (flat2 l).all flatAV = true := by
  unfold flat2
  rw [List.all_eq_true]
  intro v hv
  obtain ⟨c, hc, hvc⟩ := List.mem_flatten.1 hv
  obtain ⟨p, _, rfl⟩ := List.mem_map.1 hc
  simp only [pcell, List.mem_cons, List.not_mem_nil, or_false] at hvc
  rcases hvc with rfl | rfl <;> rfl
theorem PrL.mk (l : List (Int × Int)) (f : Bool) : PrL (.sval f l.length (flat2 l)) l := ⟨fun c hc => by obtain ⟨p, _, rfl⟩ := List.mem_map.1 hc; rfl, .inr ⟨f, by rw [List.length_map]; rfl⟩⟩
theorem PrL.nil : PrL .snil [] := ⟨fun c hc => (by cases hc), .inl ⟨rfl, rfl⟩⟩
theorem PrL.len {x : AV} {l : List (Int × Int)} (h : PrL x l) : slen x = some l.length := by
  have := SL.len h
  rwa [List.length_map] at this
theorem PrL.byVal {x : AV} {l : List (Int × Int)} (h : PrL x l) (H : Hp) : Zz.byVal H x = some x := SL.byVal h (fun c hc => by
  obtain ⟨r, _, rfl⟩ := List.mem_map.1 hc
  rfl) H
theorem PrL.pureC {x : AV} {l : List (Int × Int)} (h : PrL x l) : Zz.pureC x = true := by
  have := h.byVal []
  obtain ⟨_, ⟨rfl, _⟩ | ⟨f, rfl⟩⟩ := h
  · rfl
  · simp only [Zz.byVal, Zz.byC] at this
    split at this
    · assumption
    · cases this
theorem PrL.pureA {x : AV} {l : List (Int × Int)} (h : PrL x l) : Zz.pureA x = true := by
  have := h.pureC
  obtain ⟨_, ⟨rfl, _⟩ | ⟨f, rfl⟩⟩ := h <;> exact this
def np (l : List (Int × Int)) (i : Nat) : Int × Int := l.getD i (0, 0)
def tailp (l : List (Int × Int)) (i : Nat) : List AV := ((l.map pcell).drop (i + 1)).flatten
theorem PrL.at {x : AV} {l : List (Int × Int)} (h : PrL x l) {i : Int} (h0 : 0 ≤ i) (hi : i < l.length) : indexAddrAV 2 x (.int .i64 i) = some (.pval (.int .i64 (np l i.toNat).1 :: .int .i64 (np l i.toNat).2 :: tailp l i.toNat)) := by
  have hi' : i.toNat < l.length := by omega
  have := SL.at h (i := i.toNat) (by simpa using hi')
  have e : i = (i.toNat : Int) := by omega
  have e2 : np l i.toNat = l[i.toNat] := by simp [np, hi']
  rw [e2]
  conv => lhs; rw [e]
  simpa [pcell, tailp] using this
theorem gs_pairs {H : Hp} {v : AV} {q : Nat} {l : List (Int × Int)} (h : GS 2 H v q (flat2 l)) : ∃ x, PrL x l ∧ resC H v = some x := by
  have hl := flat2_len l
  rcases h with ⟨rfl, h1⟩ | ⟨g, rfl, h1, h2⟩ | ⟨g, n, rfl, h1, h2, h3⟩
  · rw [h1] at hl
    have : l = [] := List.length_eq_zero_iff.1 (by simp at hl; omega)
    subst this
    exact ⟨.snil, PrL.nil, rfl⟩
  · rw [h1] at hl
    have : l = [] := List.length_eq_zero_iff.1 (by simp at hl; omega)
    subst this
    refine ⟨.sval true 0 [], PrL.mk [] true, ?_⟩
    simp only [Zz.resC, h2]
    rfl
  · have hn : n = l.length := by omega
    subst hn
    have e1 : cut (flat2 l) 0 (l.length * 2) = some (flat2 l) := by
      unfold Zz.cut
      rw [if_pos (by rw [flat2_len]; omega), ← flat2_len]
      simp
    refine ⟨_, PrL.mk l false, ?_⟩
    simp only [Zz.resC, h3, e1, flat2_flat, if_true]
    rfl
theorem f29 {av bv : AV} {us ws : List (Int × Int)} (ha : PrL av us) (hb : PrL bv ws) (h1 : us.length < 9223372036854775807) (h2 : ws.length < 9223372036854775807) : WF D10 (.func 29 [] []) [av, bv] ⟨[], []⟩ fun y m' => y = .bool (decide (us = ws)) := by
  have hal := ha.len
  have hbl := hb.len
  by_cases hl : us.length = ws.length
  · have hl1 := hl
    refine WF.fnE rfl (fn_of Tryd.func29 cir29) (by show 2 ≤ 26; decide) ?_
    unfold ir29
    simp only [padTo, List.replicate, List.nil_append, List.append_nil, List.cons_append]
    repeat' (first | (refine WO.opE (by intro; simp (disch := omega) only [go_sem, zeros, Zz.look, List.append_assoc, List.length_append, ov_one0, ov_all2, ov_all6, Nat.reduceAdd, Nat.reduceMul, Nat.reduceSub, Nat.reduceLeDiff, Nat.reduceEqDiff, Int.reduceNeg, Int.reduceAdd, Int.reduceToNat, reduceIte, reduceCtorEq]; rfl) (by simp only [pt8, pt0, pt1, pt2, pt3, pt4, pt5, pt6, pt7]; rfl) ?_) | (refine WO.opE (by intro; exact ev_lenS (by simp only [go_sem]; first | rfl | assumption)) (by simp only [pt8, pt0, pt1, pt2, pt3, pt4, pt5, pt6, pt7]; rfl) ?_) | (refine WC.seq ?_) | (refine WC.region ?_) | (refine WO.nil ?_) | (simp only [fl1, fl2, fl3, fl4, fl5, fl6, fl7, fl8, fl9, fl10, Nat.reduceBEq]) | (refine WC.skip ?_) | (refine WC.block ?_) | (refine WC.em2 rfl (fun hp => ?_) (fun hp => ?_) <;> try (exfalso; first | omega | contradiction)))
    refine WC.loopI (fun m s => ∃ T i, s = ⟨T, [], []⟩ ∧ T.length = 26 ∧ gt T 0 = av ∧ gt T 1 = bv ∧ gt T 5 = .int .i64 (i : Nat) ∧ m + i = us.length ∧ ∀ j, j < i → np us j = np ws j) ?_ us.length _ ⟨_, 0, rfl, rfl, rfl, rfl, rfl, by omega, fun j hj => by omega⟩
    rintro m _ ⟨T, i, rfl, hT, g0, g1, g5, hm, hi⟩
    obtain ⟨f, rfl⟩ := ex26 hT
    clear hT
    replace g0 : f 0 = av := g0
    replace g1 : f 1 = bv := g1
    replace g5 : f 5 = .int .i64 (i : Nat) := g5
    simp only [g0, g1, g5]
    by_cases hin : i < us.length
    · by_cases he : np us i = np ws i
      · have h11 : (np us i).1 = (np ws i).1 := by rw [he]
        have h12 : (np us i).2 = (np ws i).2 := by rw [he]
        repeat' (first | (refine WO.opE (by intro; simp (disch := omega) only [go_sem, zeros, List.append_assoc, List.length_append, ov_all6, ov_one0, ov_all2, Nat.reduceAdd, Nat.reduceMul, Nat.reduceSub, Nat.reduceLeDiff, Nat.reduceEqDiff, Int.reduceNeg, Int.reduceAdd, Int.reduceToNat, reduceIte, reduceCtorEq, ha.at, hb.at, cut2z, h11, h12, cellsEq, cellEq, eq_self, and_self, Bool.and_true, Bool.true_and, Bool.and_self, Bool.not_true]; rfl) (by simp only [pt8, pt0, pt1, pt2, pt3, pt4, pt5, pt6, pt7]; rfl) ?_) | (refine WO.opE (by intro; exact ev_lenS (by simp only [go_sem]; first | rfl | assumption)) (by simp only [pt8, pt0, pt1, pt2, pt3, pt4, pt5, pt6, pt7]; rfl) ?_) | (refine WC.seq ?_) | (refine WC.region ?_) | (refine WO.nil ?_) | (simp only [fl1, fl2, fl3, fl4, fl5, fl6, fl7, fl8, fl9, fl10, Nat.reduceBEq]) | (refine WC.calm rfl ?_) | (refine WC.no rfl ?_) | (refine WC.skip ?_) | (refine WC.block ?_) | (refine WC.em2 rfl (fun hp => ?_) (fun hp => ?_) <;> try (exfalso; first | omega | contradiction)))
        exact ⟨m - 1, by omega, _, i + 1, rfl, rfl, rfl, rfl, rfl, by omega, fun j hj => by
          by_cases e : j = i
          · subst e; exact he
          · exact hi j (by omega)⟩
      · have hne : us ≠ ws := fun h => he (by rw [h])
        have hbf : (decide ((np us i).1 = (np ws i).1) && decide ((np us i).2 = (np ws i).2)) = false := by
          rw [Bool.and_eq_false_iff, decide_eq_false_iff_not, decide_eq_false_iff_not]
          by_cases h : (np us i).1 = (np ws i).1
          · exact .inr fun h' => he (Prod.ext h h')
          · exact .inl h
        repeat' (first | (refine WO.opE (by intro; simp (disch := omega) only [go_sem, zeros, List.append_assoc, List.length_append, ov_all6, ov_one0, ov_all2, Nat.reduceAdd, Nat.reduceMul, Nat.reduceSub, Nat.reduceLeDiff, Nat.reduceEqDiff, Int.reduceNeg, Int.reduceAdd, Int.reduceToNat, reduceIte, reduceCtorEq, ha.at, hb.at, cut2z, cellsEq, cellEq, hbf, Bool.and_true, Bool.not_false]; rfl) (by simp only [pt8, pt0, pt1, pt2, pt3, pt4, pt5, pt6, pt7]; rfl) ?_) | (refine WO.opE (by intro; exact ev_lenS (by simp only [go_sem]; first | rfl | assumption)) (by simp only [pt8, pt0, pt1, pt2, pt3, pt4, pt5, pt6, pt7]; rfl) ?_) | (refine WC.seq ?_) | (refine WC.region ?_) | (refine WO.nil ?_) | (simp only [fl1, fl2, fl3, fl4, fl5, fl6, fl7, fl8, fl9, fl10, Nat.reduceBEq]) | (refine WC.calm rfl ?_) | (refine WC.skip ?_) | (refine WC.block ?_) | (refine WC.em2 rfl (fun hp => ?_) (fun hp => ?_) <;> try (exfalso; first | omega | contradiction)))
        simp only [hbf, Bool.not_false]
        repeat' (first | (refine WO.opE (by intro; simp (disch := omega) only [go_sem, zeros, List.append_assoc, List.length_append, ov_all6, ov_one0, ov_all2, Nat.reduceAdd, Nat.reduceMul, Nat.reduceSub, Nat.reduceLeDiff, Nat.reduceEqDiff, Int.reduceNeg, Int.reduceAdd, Int.reduceToNat, reduceIte, reduceCtorEq]; rfl) (by simp only [pt8, pt0, pt1, pt2, pt3, pt4, pt5, pt6, pt7]; rfl) ?_) | (refine WC.seq ?_) | (refine WC.region ?_) | (refine WO.nil ?_) | (simp only [fl1, fl2, fl3, fl4, fl5, fl6, fl7, fl8, fl9, fl10, Nat.reduceBEq]) | (refine WC.yes rfl ?_) | (refine WC.ret ?_))
        all_goals
          refine ⟨_, rfl, ?_⟩
          simp only [oneRes, gt8, gt0, gt1, gt2, gt3, gt4, gt5, gt6, gt7, AV.bool.injEq]
          symm
          rw [decide_eq_false_iff_not]
          exact hne
    · have hi' : i = us.length := by omega
      subst hi'
      repeat' (first | (refine WO.opE (by intro; simp (disch := omega) only [go_sem, zeros, Zz.look, List.append_assoc, List.length_append, ov_one0, ov_all2, ov_all6, Nat.reduceAdd, Nat.reduceMul, Nat.reduceSub, Nat.reduceLeDiff, Nat.reduceEqDiff, Int.reduceNeg, Int.reduceAdd, Int.reduceToNat, reduceIte, reduceCtorEq]; rfl) (by simp only [pt8, pt0, pt1, pt2, pt3, pt4, pt5, pt6, pt7]; rfl) ?_) | (refine WO.opE (by intro; exact ev_lenS (by simp only [go_sem]; first | rfl | assumption)) (by simp only [pt8, pt0, pt1, pt2, pt3, pt4, pt5, pt6, pt7]; rfl) ?_) | (refine WC.seq ?_) | (refine WC.region ?_) | (refine WO.nil ?_) | (simp only [fl1, fl2, fl3, fl4, fl5, fl6, fl7, fl8, fl9, fl10, Nat.reduceBEq]) | (refine WC.exit ?_) | (refine WC.ret ?_) | (refine WC.em2 rfl (fun hp => ?_) (fun hp => ?_) <;> try (exfalso; first | omega | contradiction)))
      refine ⟨_, rfl, ?_⟩
      simp only [oneRes, gt8, gt0, gt1, gt2, gt3, gt4, gt5, gt6, gt7, AV.bool.injEq]
      symm
      rw [decide_eq_true_iff]
      refine List.ext_getElem hl fun j h3 h4 => ?_
      have := hi j h3
      simpa [np, h3, h4] using this
  · have hl1 := hl
    refine WF.fnE rfl (fn_of Tryd.func29 cir29) (by show 2 ≤ 26; decide) ?_
    unfold ir29
    simp only [padTo, List.replicate, List.nil_append, List.append_nil, List.cons_append]
    repeat' (first | (refine WO.opE (by intro; simp (disch := omega) only [go_sem, zeros, Zz.look, List.append_assoc, List.length_append, ov_one0, ov_all2, ov_all6, Nat.reduceAdd, Nat.reduceMul, Nat.reduceSub, Nat.reduceLeDiff, Nat.reduceEqDiff, Int.reduceNeg, Int.reduceAdd, Int.reduceToNat, reduceIte, reduceCtorEq]; rfl) (by simp only [pt8, pt0, pt1, pt2, pt3, pt4, pt5, pt6, pt7]; rfl) ?_) | (refine WO.opE (by intro; exact ev_lenS (by simp only [go_sem]; first | rfl | assumption)) (by simp only [pt8, pt0, pt1, pt2, pt3, pt4, pt5, pt6, pt7]; rfl) ?_) | (refine WC.seq ?_) | (refine WC.region ?_) | (refine WO.nil ?_) | (simp only [fl1, fl2, fl3, fl4, fl5, fl6, fl7, fl8, fl9, fl10, Nat.reduceBEq]) | (refine WC.ret ?_) | (refine WC.em2 rfl (fun hp => ?_) (fun hp => ?_) <;> try (exfalso; first | omega | contradiction)))
    refine ⟨_, rfl, ?_⟩
    simp only [oneRes, gt8, gt0, gt1, gt2, gt3, gt4, gt5, gt6, gt7, AV.bool.injEq]
    symm
    rw [decide_eq_false_iff_not]
    exact fun h => hl (by rw [h])
theorem s29 {av bv : AV} {us ws : List (Int × Int)} (ha : PrL av us) (hb : PrL bv ws) (h1 : us.length < 9223372036854775807) (h2 : ws.length < 9223372036854775807) {m : Mem} : borrowE D10 29 [av, bv] m = some (.bool (decide (us = ws)), m) :=
  borrowE_of (pures_cons ha.pureA (pures_cons hb.pureA rfl)) ((f29 ha hb h1 h2).mono fun y m' h => by rw [h]; rfl)

noncomputable def D11 : Env := D10.put 29 (borrowE D10 29)
theorem D11_ok : EnvOk Tryd.prog D11 := Env.put_ok D10_ok (borrowE_ok D10_ok (callable Tryd.func29 (by kernel_rfl)))
/-- The size at which a pipe sounds. -/
def sndOf (ps : List Pipe) (id l w : Int) : Int × Int := (eLo (pipeOf ps id).p.l 6 + shiftOf (pipeOf ps id) l w, eHi (pipeOf ps id).p.l 6 + shiftOf (pipeOf ps id) l w)
def sndL (ps : List Pipe) (ids : List Int) (l w : Int) (i : Nat) : List (Int × Int) := (ids.take i).map fun id => sndOf ps id l w
theorem snd_len {ps : List Pipe} {ids : List Int} {l w : Int} {i : Nat} (h : i ≤ ids.length) : (sndL ps ids l w i).length = i := by
  unfold sndL
  rw [List.length_map, List.length_take]
  omega
theorem snd_succ {ps : List Pipe} {ids : List Int} {l w : Int} {i : Nat} (h : i < ids.length) : sndL ps ids l w (i + 1) = sndL ps ids l w i ++ [sndOf ps (ids.getD i 0) l w] := by
  unfold sndL
  rw [List.take_add_one, List.map_append, List.getD_eq_getElem?_getD, List.getElem?_eq_getElem h]
  rfl
theorem snd_bnd {ps : List Pipe} {sup tol : Int} (hv : VO ps sup tol) (id : Int) : -28800000000000 ≤ eLo (pipeOf ps id).p.l 6 ∧ eLo (pipeOf ps id).p.l 6 ≤ 28800000000000 ∧ -28800000000000 ≤ eHi (pipeOf ps id).p.l 6 ∧ eHi (pipeOf ps id).p.l 6 ≤ 28800000000000 := by
  have hs := V6.small (hv.pok id) (by omega)
  have h1 := eLo_bnd hs 6 (by omega)
  have h2 := eHi_bnd hs 6 (by omega)
  omega
/-- The reference's Sounds. -/
theorem f28 {pv iv : AV} {ps : List Pipe} {ids : List Int} {sup tol w : Int} (hq : PpL pv ps) (hmax : ps.length < 9223372036854775807) (hiv : IntS iv ids) (himax : ids.length < 9223372036854775807) :
    WF D11 (.func 28 [] []) [.agg [pv, .int .i64 sup, .int .i64 tol], iv, .int .i64 w] ⟨[], []⟩ fun y m' => ∃ x, PrL x (if setE ps sup tol ids w = 0 then sndL ps ids (lacks ps sup ids) w ids.length else []) ∧ resV m'.heap y = some (.tuple [x, .int .i64 (setE ps sup tol ids w)]) := by
  have hil := hiv.len
  have h25 := fun m => s25 (sup := sup) (tol := tol) (m := m) hq hmax hiv himax
  rw [setE_warm]
  by_cases hw : -100 ≤ w ∧ w ≤ 100
  · rw [if_pos hw]
    by_cases h0 : setE ps sup tol ids 0 = 0
    · obtain ⟨hv, _, hr, hh⟩ := setE_ok.1 h0
      have hl := ris_len hv hr hh
      have hlb := lacks_bnd hv (ids := ids) (by omega)
      simp only [h0, if_true] at h25 ⊢
      have h56 := fun m => s56x (m := m) hq hiv hv hh (by omega) (hiv.byVal _)
      generalize lacks ps sup ids = la at *
      refine WF.fnE rfl (fn_of Tryd.func28 cir28) (by show 3 ≤ 75; decide) ?_
      unfold ir28
      simp only [padTo, List.replicate, List.nil_append, List.append_nil, List.cons_append]
      repeat' (first | (refine WO.yes rfl ?_) | (refine WO.opE (by intro; simp (disch := omega) only [go_sem, zeros, Zz.look, List.append_assoc, List.length_append, ov_one0, ov_all2, ov_all6, Nat.reduceAdd, Nat.reduceMul, Nat.reduceSub, Nat.reduceLeDiff, Nat.reduceEqDiff, Int.reduceNeg, Int.reduceAdd, Int.reduceToNat, reduceIte, reduceCtorEq]; rfl) (by simp only [pt8, pt0, pt1, pt2, pt3, pt4, pt5, pt6, pt7]; rfl) ?_) | (refine WO.specE rfl rfl (h25 _) (by simp only [pt8, pt0, pt1, pt2, pt3, pt4, pt5, pt6, pt7]; rfl) ?_) | (refine WO.specE rfl rfl (s63) (by simp only [pt8, pt0, pt1, pt2, pt3, pt4, pt5, pt6, pt7]; rfl) ?_) | (refine WC.seq ?_) | (refine WC.region ?_) | (refine WO.nil ?_) | (simp only [fl1, fl2, fl3, fl4, fl5, fl6, fl7, fl8, fl9, fl10, Nat.reduceBEq]) | (refine WC.no rfl ?_) | (refine WC.skip ?_) | (refine WC.block ?_) | (refine WC.em2 rfl (fun hp => ?_) (fun hp => ?_) <;> try (exfalso; first | omega | contradiction)))
      refine WC.loopI (fun m s => ∃ T H i v q, s = ⟨T, H, []⟩ ∧ T.length = 75 ∧ gt T 1 = iv ∧ gt T 2 = .int .i64 w ∧ gt T 3 = .pref 0 0 0 ∧ gt T 11 = v ∧ gt T 12 = .int .i64 (i : Nat) ∧ m + i = ids.length ∧ Zz.look H 0 0 = some [pv, .int .i64 sup, .int .i64 tol] ∧ GS 2 H v q (flat2 (sndL ps ids la w i)) ∧ 1 ≤ q) ?_ ids.length _ ⟨_, _, 0, _, 1, rfl, rfl, rfl, rfl, rfl, rfl, rfl, by omega, rfl, .inl ⟨rfl, rfl⟩, by omega⟩
      rintro m _ ⟨T, H, i, v, q, rfl, hT, g1, g2, g3, g11, g12, hm, k0, hg, hq1⟩
      obtain ⟨f, rfl⟩ := ex75 hT
      clear hT
      replace g1 : f 1 = iv := g1
      replace g2 : f 2 = .int .i64 w := g2
      replace g3 : f 3 = .pref 0 0 0 := g3
      replace g11 : f 11 = v := g11
      replace g12 : f 12 = .int .i64 (i : Nat) := g12
      simp only [g1, g2, g3, g11, g12]
      have l0 := look_lt k0
      by_cases hin : i < ids.length
      · have hpos := hh i hin
        have h54 := fun m => s54 (sup := sup) (tol := tol) (id := ids.getD i 0) (m := m) hq hmax
        have hpi : posI ps (ids.getD i 0) = ((pos ps (ids.getD i 0) : Nat) : Int) := if_pos hpos
        rw [hpi] at h54
        have hat := (hv.at (ids.getD i 0)).2.2
        have hpok := hv.pok (ids.getD i 0)
        have h66 := fun m => s66 (m := m) hpok
        have h59 := fun m => s59 (m := m) (p := pipeOf ps (ids.getD i 0)) (l := la) (w := w) hat hw (by omega)
        have hsb := snd_bnd hv (ids.getD i 0)
        have m1 := mul_bnd hat.2.2.1 hat.2.2.2 hw.1 hw.2
        have m2 := mul_bnd hat.1 hat.2.1 (b := la) (B := 1000000000) (by omega) (by omega)
        have hsh : shiftOf (pipeOf ps (ids.getD i 0)) la w = (pipeOf ps (ids.getD i 0)).warm * w - (pipeOf ps (ids.getD i 0)).sag * la := rfl
        have hss := snd_succ (ps := ps) (l := la) (w := w) hin
        unfold sndOf at hss
        have hsl := flat2_len (sndL ps ids la w i)
        rw [snd_len (by omega)] at hsl
        generalize shiftOf (pipeOf ps (ids.getD i 0)) la w = sh at *
        generalize eLo (pipeOf ps (ids.getD i 0)).p.l 6 = lo at *
        generalize eHi (pipeOf ps (ids.getD i 0)).p.l 6 = hi at *
        have epp : pipeOf ps (ids.getD i 0) = nth ps (pos ps (ids.getD i 0)) := rfl
        rw [epp] at h59 h66 hpok hat m1 m2 hsh
        generalize hpp : pos ps (ids.getD i 0) = pp at *
        obtain ⟨v', q', H1, e1, a1, a2, a3, a4⟩ := (hg.more [some ⟨0, (nth ps pp).cells⟩, some ⟨0, [.int .i64 lo, .int .i64 hi]⟩, some ⟨0, [.int .i64 (lo + sh), .int .i64 (hi + sh)]⟩]).append (L := []) (bytes := 16) (n := 1) (cap := some 1) (id := H.length + 2) (lk2 rfl) rfl Nat.one_pos (by omega) ⟨by rw [hsl]; omega, by rw [hsl]; omega⟩
        have hkk : ∀ j, j < H.length → j ≠ q → H1[j]? = H[j]? := fun j h1 h2 => by rw [a4 j (by simp; omega) h2, List.getElem?_append_left h1]
        have t1 : flat2 (sndL ps ids la w i) ++ [.int .i64 (lo + sh), .int .i64 (hi + sh)] = flat2 (sndL ps ids la w (i + 1)) := by rw [hss, flat2_app]; rfl
        rw [t1] at a1
        repeat' (first | (refine WO.opE (by intro; simp (disch := omega) only [go_sem, zeros, List.append_assoc, List.length_append, ov_all6, ov_one0, ov_all2, Nat.reduceAdd, Nat.reduceMul, Nat.reduceSub, Nat.reduceLeDiff, Nat.reduceEqDiff, Int.reduceNeg, Int.reduceAdd, Int.reduceToNat, reduceIte, reduceCtorEq, hq.at, hiv.atI, cut10, cutA, cut2z, cut3z, Pipe.cells, over10, lk0, lk1, lk2, st0, st1, st2, k0, look_left]; rfl) (by simp only [pt8, pt0, pt1, pt2, pt3, pt4, pt5, pt6, pt7]; rfl) ?_) | (refine WO.opN (by intro; simp (disch := omega) only [go_sem, zeros, List.append_assoc, List.length_append, ov_all6, ov_one0, ov_all2, Nat.reduceAdd, Nat.reduceMul, Nat.reduceSub, Nat.reduceLeDiff, Nat.reduceEqDiff, Int.reduceNeg, Int.reduceAdd, Int.reduceToNat, reduceIte, reduceCtorEq, hq.at, hiv.atI, cut10, cutA, cut2z, cut3z, Pipe.cells, over10, lk0, lk1, lk2, st0, st1, st2, k0, look_left]; rfl) ?_) | (refine WO.opE (by intro; exact ev_lenS (by simp only [go_sem]; first | rfl | assumption)) (by simp only [pt8, pt0, pt1, pt2, pt3, pt4, pt5, pt6, pt7]; rfl) ?_) | (refine WT.spec rfl rfl (fun V => h54 _) (by simp only [pt8, pt0, pt1, pt2, pt3, pt4, pt5, pt6, pt7]; rfl) ?_) | (refine WO.specE rfl rfl (h66 _) (by simp only [pt8, pt0, pt1, pt2, pt3, pt4, pt5, pt6, pt7]; rfl) ?_) | (refine WT.spec rfl rfl (fun V => h56 _) (by simp only [pt8, pt0, pt1, pt2, pt3, pt4, pt5, pt6, pt7]; rfl) ?_) | (refine WT.spec rfl rfl (fun V => h59 _) (by simp only [pt8, pt0, pt1, pt2, pt3, pt4, pt5, pt6, pt7]; rfl) ?_) | (refine WO.opE (by intro; rw [ev_append]; exact e1) (by simp only [pt8, pt0, pt1, pt2, pt3, pt4, pt5, pt6, pt7]; rfl) ?_) | (refine WC.seq ?_) | (refine WC.region ?_) | (refine WO.nil ?_) | (simp only [fl1, fl2, fl3, fl4, fl5, fl6, fl7, fl8, fl9, fl10, Nat.reduceBEq]) | (refine WC.drawT ?_) | (refine WT.nil ?_) | (refine WT.free rfl (by intro; simp (disch := omega) only [go_sem, zeros, List.append_assoc, List.length_append, ov_all6, ov_one0, ov_all2, Nat.reduceAdd, Nat.reduceMul, Nat.reduceSub, Nat.reduceLeDiff, Nat.reduceEqDiff, Int.reduceNeg, Int.reduceAdd, Int.reduceToNat, reduceIte, reduceCtorEq, hq.at, hiv.atI, cut10, cutA, cut2z, cut3z, Pipe.cells, over10, lk0, lk1, lk2, st0, st1, st2, k0, look_left]; rfl) rfl (by simp only [pt8, pt0, pt1, pt2, pt3, pt4, pt5, pt6, pt7]; rfl) ?_) | (refine WT.big rfl rfl (by intro; simp (disch := omega) only [go_sem, zeros, List.append_assoc, List.length_append, ov_all6, ov_one0, ov_all2, Nat.reduceAdd, Nat.reduceMul, Nat.reduceSub, Nat.reduceLeDiff, Nat.reduceEqDiff, Int.reduceNeg, Int.reduceAdd, Int.reduceToNat, reduceIte, reduceCtorEq, hq.at, hiv.atI, cut10, cutA, cut2z, cut3z, Pipe.cells, over10, lk0, lk1, lk2, st0, st1, st2, k0, look_left]; rfl) (by simp (disch := omega) only [go_sem, zeros, List.append_assoc, List.length_append, ov_all6, ov_one0, ov_all2, Nat.reduceAdd, Nat.reduceMul, Nat.reduceSub, Nat.reduceLeDiff, Nat.reduceEqDiff, Int.reduceNeg, Int.reduceAdd, Int.reduceToNat, reduceIte, reduceCtorEq, hq.at, hiv.atI, cut10, cutA, cut2z, cut3z, Pipe.cells, over10, lk0, lk1, lk2, st0, st1, st2, k0, look_left, touch]; rfl) (by first | exact .inl rfl | exact .inr (apart_nil _) | exact .inr trivial | (right; apply apart_mk; simp only [apartL, List.nil_append, List.cons_append, List.getElem?_cons_succ, List.getElem?_cons_zero, Tch.free, and_true, true_and]; first | done | omega)) (by simp only [pt8, pt0, pt1, pt2, pt3, pt4, pt5, pt6, pt7]; rfl) ?_) | (refine WT.bigN rfl rfl (by intro; simp (disch := omega) only [go_sem, zeros, List.append_assoc, List.length_append, ov_all6, ov_one0, ov_all2, Nat.reduceAdd, Nat.reduceMul, Nat.reduceSub, Nat.reduceLeDiff, Nat.reduceEqDiff, Int.reduceNeg, Int.reduceAdd, Int.reduceToNat, reduceIte, reduceCtorEq, hq.at, hiv.atI, cut10, cutA, cut2z, cut3z, Pipe.cells, over10, lk0, lk1, lk2, st0, st1, st2, k0, look_left]; rfl) (by simp (disch := omega) only [go_sem, zeros, List.append_assoc, List.length_append, ov_all6, ov_one0, ov_all2, Nat.reduceAdd, Nat.reduceMul, Nat.reduceSub, Nat.reduceLeDiff, Nat.reduceEqDiff, Int.reduceNeg, Int.reduceAdd, Int.reduceToNat, reduceIte, reduceCtorEq, hq.at, hiv.atI, cut10, cutA, cut2z, cut3z, Pipe.cells, over10, lk0, lk1, lk2, st0, st1, st2, k0, look_left, touch]; rfl) (by first | exact .inl rfl | exact .inr (apart_nil _) | exact .inr trivial | (right; apply apart_mk; simp only [apartL, List.nil_append, List.cons_append, List.getElem?_cons_succ, List.getElem?_cons_zero, Tch.free, and_true, true_and]; first | done | omega)) ?_) | (refine WC.skip ?_) | (refine WC.block ?_) | (refine WC.em2 rfl (fun hp => ?_) (fun hp => ?_) <;> try (exfalso; first | omega | contradiction)))
        refine ⟨m - 1, by omega, _, _, i + 1, v', q', rfl, rfl, rfl, rfl, rfl, rfl, rfl, by omega, ?_, a1, ?_⟩
        · rw [look_of_get (hkk 0 (by omega) (by omega))]; exact k0
        · rcases a2 with rfl | rfl
          · exact hq1
          · first | (simp; done) | (simp; omega)
      · have hi' : i = ids.length := by omega
        subst hi'
        repeat' (first | (refine WO.opE (by intro; simp (disch := omega) only [go_sem, zeros, List.append_assoc, List.length_append, ov_all6, ov_one0, ov_all2, Nat.reduceAdd, Nat.reduceMul, Nat.reduceSub, Nat.reduceLeDiff, Nat.reduceEqDiff, Int.reduceNeg, Int.reduceAdd, Int.reduceToNat, reduceIte, reduceCtorEq]; rfl) (by simp only [pt8, pt0, pt1, pt2, pt3, pt4, pt5, pt6, pt7]; rfl) ?_) | (refine WO.opE (by intro; exact ev_lenS (by simp only [go_sem]; first | rfl | assumption)) (by simp only [pt8, pt0, pt1, pt2, pt3, pt4, pt5, pt6, pt7]; rfl) ?_) | (refine WC.seq ?_) | (refine WC.region ?_) | (refine WO.nil ?_) | (simp only [fl1, fl2, fl3, fl4, fl5, fl6, fl7, fl8, fl9, fl10, Nat.reduceBEq]) | (refine WC.exit ?_) | (refine WC.ret ?_) | (refine WC.em2 rfl (fun hp => ?_) (fun hp => ?_) <;> try (exfalso; first | omega | contradiction)))
        obtain ⟨x, x1, x2⟩ := gs_pairs hg
        exact ⟨_, rfl, x, x1, res2 x2⟩
    · rw [if_neg h0]
      rw [if_neg h0] at h25
      generalize setE ps sup tol ids 0 = e at *
      refine WF.fnE rfl (fn_of Tryd.func28 cir28) (by show 3 ≤ 75; decide) ?_
      unfold ir28
      simp only [padTo, List.replicate, List.nil_append, List.append_nil, List.cons_append]
      repeat' (first | (refine WO.yes rfl ?_) | (refine WO.noE rfl (by simp only [pt8, pt0, pt1, pt2, pt3, pt4, pt5, pt6, pt7]; rfl) ?_) | (refine WO.opE (by intro; simp (disch := omega) only [go_sem, zeros, Zz.look, List.append_assoc, List.length_append, ov_one0, ov_all2, ov_all6, Nat.reduceAdd, Nat.reduceMul, Nat.reduceSub, Nat.reduceLeDiff, Nat.reduceEqDiff, Int.reduceNeg, Int.reduceAdd, Int.reduceToNat, reduceIte, reduceCtorEq]; rfl) (by simp only [pt8, pt0, pt1, pt2, pt3, pt4, pt5, pt6, pt7]; rfl) ?_) | (refine WO.specE rfl rfl (h25 _) (by simp only [pt8, pt0, pt1, pt2, pt3, pt4, pt5, pt6, pt7]; rfl) ?_) | (refine WO.specE rfl rfl (s63) (by simp only [pt8, pt0, pt1, pt2, pt3, pt4, pt5, pt6, pt7]; rfl) ?_) | (refine WC.seq ?_) | (refine WC.region ?_) | (refine WO.nil ?_) | (simp only [fl1, fl2, fl3, fl4, fl5, fl6, fl7, fl8, fl9, fl10, Nat.reduceBEq]) | (refine WC.yes rfl ?_) | (refine WC.skip ?_) | (refine WC.ret ?_) | (refine WO.em2 rfl (by intro hp; simp only [hp, decide_true]; rfl) (by intro hp; simp only [hp, decide_false]; rfl) (fun hp => ?_) (fun hp => ?_) <;> try (exfalso; first | omega | contradiction)) | (refine WC.em2 rfl (fun hp => ?_) (fun hp => ?_) <;> try (exfalso; first | omega | contradiction)))
      all_goals first
        | exact ⟨_, rfl, _, PrL.nil, rfl⟩
        | (obtain rfl : e = 1 := by omega
           exact ⟨_, rfl, _, PrL.nil, rfl⟩)
  · have hw1 := hw
    rw [if_neg hw, if_neg (by decide)]
    generalize setE ps sup tol ids 0 = e at *
    refine WF.fnE rfl (fn_of Tryd.func28 cir28) (by show 3 ≤ 75; decide) ?_
    unfold ir28
    simp only [padTo, List.replicate, List.nil_append, List.append_nil, List.cons_append]
    repeat' (first | (refine WO.yes rfl ?_) | (refine WO.noE rfl (by simp only [pt8, pt0, pt1, pt2, pt3, pt4, pt5, pt6, pt7]; rfl) ?_) | (refine WO.opE (by intro; simp (disch := omega) only [go_sem, zeros, Zz.look, List.append_assoc, List.length_append, ov_one0, ov_all2, ov_all6, Nat.reduceAdd, Nat.reduceMul, Nat.reduceSub, Nat.reduceLeDiff, Nat.reduceEqDiff, Int.reduceNeg, Int.reduceAdd, Int.reduceToNat, reduceIte, reduceCtorEq]; rfl) (by simp only [pt8, pt0, pt1, pt2, pt3, pt4, pt5, pt6, pt7]; rfl) ?_) | (refine WO.specE rfl rfl (h25 _) (by simp only [pt8, pt0, pt1, pt2, pt3, pt4, pt5, pt6, pt7]; rfl) ?_) | (refine WO.specE rfl rfl (s63) (by simp only [pt8, pt0, pt1, pt2, pt3, pt4, pt5, pt6, pt7]; rfl) ?_) | (refine WC.seq ?_) | (refine WC.region ?_) | (refine WO.nil ?_) | (simp only [fl1, fl2, fl3, fl4, fl5, fl6, fl7, fl8, fl9, fl10, Nat.reduceBEq]) | (refine WC.yes rfl ?_) | (refine WC.ret ?_) | (refine WO.em2 rfl (by intro hp; simp only [hp, decide_true]; rfl) (by intro hp; simp only [hp, decide_false]; rfl) (fun hp => ?_) (fun hp => ?_) <;> try (exfalso; first | omega | contradiction)) | (refine WC.em2 rfl (fun hp => ?_) (fun hp => ?_) <;> try (exfalso; first | omega | contradiction)))
    all_goals exact ⟨_, rfl, _, PrL.nil, rfl⟩
theorem s28 {pv iv : AV} {ps : List Pipe} {ids : List Int} {sup tol w : Int} (hq : PpL pv ps) (hmax : ps.length < 9223372036854775807) (hiv : IntS iv ids) (himax : ids.length < 9223372036854775807) :
    ∃ x, PrL x (if setE ps sup tol ids w = 0 then sndL ps ids (lacks ps sup ids) w ids.length else []) ∧ ∀ m, borrowE D11 28 [.agg [pv, .int .i64 sup, .int .i64 tol], iv, .int .i64 w] m = some (.tuple [x, .int .i64 (setE ps sup tol ids w)], m) := by
  obtain ⟨n, y, m', h1, x, x1, x2⟩ := (f28 (sup := sup) (tol := tol) (w := w) hq hmax hiv himax).ex
  exact ⟨x, x1, fun m => borrowE_of (pures_cons (pure3 hq.pureC) (pures_cons hiv.pureA (pures_cons rfl rfl))) ⟨⟨n, y, m', h1, x2⟩⟩⟩

noncomputable def D12 : Env := D11.put 28 (borrowE D11 28)
theorem D12_ok : EnvOk Tryd.prog D12 := Env.put_ok D11_ok (borrowE_ok D11_ok (callable Tryd.func28 (by kernel_rfl)))
end Go.Proofs.YtjbdefmhjmkifaaDoor

