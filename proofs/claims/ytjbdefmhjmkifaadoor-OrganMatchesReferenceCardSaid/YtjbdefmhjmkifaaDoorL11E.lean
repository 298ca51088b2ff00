import Derived.Test.YtjbdefmhjmkifaaDoorL11D

set_option linter.unusedSimpArgs false
set_option linter.unusedVariables false
namespace Go.Proofs.YtjbdefmhjmkifaaDoor
open Go.Zz
set_option maxRecDepth 100000
set_option maxHeartbeats 2000000
theorem f49 {v : V6} : WF E31 (.func 49 [] []) [.agg v.cells] ⟨[], []⟩ fun y m' => y = .bool (decide (¬ v.ok 48)) := by
  have h50 := fun m => s50 (a := v.x0) (b := v.x1) (c := v.x2) (d := v.x3) (e := v.x4) (f := v.x5) (m := m)
  refine WF.fnE rfl (fn_of Tryd.func49 cir49) (by show 1 ≤ 6; decide) ?_
  unfold ir49
  simp only [padTo, List.replicate, List.nil_append, List.append_nil, List.cons_append]
  repeat' (first | (refine WO.opE (by intro; simp (disch := omega) only [go_sem, zeros, Zz.look, List.append_assoc, List.length_append, ov_one0, ov_all2, ov_all6, Nat.reduceAdd, Nat.reduceMul, Nat.reduceSub, Nat.reduceLeDiff, Nat.reduceEqDiff, Int.reduceNeg, Int.reduceAdd, Int.reduceToNat, reduceIte, reduceCtorEq, V6.cells]; rfl) (by simp only [pt8, pt0, pt1, pt2, pt3, pt4, pt5, pt6, pt7]; rfl) ?_) | (refine WO.specE rfl rfl (h50 _) (by simp only [pt8, pt0, pt1, pt2, pt3, pt4, pt5, pt6, pt7]; rfl) ?_) | (refine WC.seq ?_) | (refine WC.region ?_) | (refine WO.nil ?_) | (simp only [fl1, fl2, fl3, fl4, fl5, fl6, fl7, fl8, fl9, fl10, Nat.reduceBEq]) | (refine WC.ret ?_))
  exact ⟨_, rfl, rfl⟩
theorem s49 {v : V6} {m : Mem} : borrowE E31 49 [.agg v.cells] m = some (.bool (decide (¬ v.ok 48)), m) := borrowE_of rfl (f49.mono fun y m' h => by rw [h]; rfl)

noncomputable def E32 : Env := E31.put 49 (borrowE E31 49)
theorem E32_ok : EnvOk Tryd.prog E32 := Env.put_ok E31_ok (borrowE_ok E31_ok (callable Tryd.func49 (by kernel_rfl)))
theorem app_in {H : Hp} {L : List (Option ALoop)} {qi bs n k : Nat} {c : List AV} {x : AV} (h1 : Zz.look H qi 0 = some c) (h2 : Zz.look H bs 0 = some [x]) (hn : n < k) (hc : c.length = k) :
    appendAV 1 8 ⟨H, L⟩ (.sref qi 0 0 1 n (some k)) (.sref bs 0 0 1 1 (some 1)) = some (.sref qi 0 0 1 (n + 1) (some k), ⟨H.set qi (some ⟨0, c.set n x⟩), L⟩) := by
  have e1 : cut c 0 (n * 1) = some (c.take n) := by
    unfold Zz.cut
    rw [if_pos (by omega), List.drop_zero, Nat.mul_one]
  have e2 : cut [x] 0 (1 * 1) = some [x] := rfl
  have e3 : over c (0 + n * 1) [x] = some (c.set n x) := by
    rw [Nat.zero_add, Nat.mul_one]
    exact over_one (by omega)
  simp only [appendAV, scells, if_true, h1, h2, Option.bind_some, e1, e2, slen, Option.bind_eq_bind, storeAt, e3, setBlk, if_pos (show n + 1 ≤ k by omega)]
theorem slice_back {H : Hp} {qi n m k : Nat} (hn : n ≤ k) : sliceAV H 1 (.sref qi 0 0 1 m (some k)) none (some (.int .i64 (n : Int))) none = some (.sref qi 0 0 1 n (some k)) := by
  simp only [sliceAV, if_true, Option.isNone, Bool.false_and, Bool.false_eq_true, if_false, bnds, bndO, bnd, Option.getD_some]
  rw [if_pos ⟨by omega, by omega⟩]
  simp
theorem byVal_ids {H : Hp} {qi n k : Nat} {c : List AV} {pre : List Int} (h1 : Zz.look H qi 0 = some c) (hn : n = pre.length) (hc : n ≤ c.length) (hp : c.take n = pre.map (.int .i64)) : Zz.byVal H (.sref qi 0 0 1 n (some k)) = some (.sval (some k == some n) n (pre.map (.int .i64))) := by
  have e1 : cut c 0 (n * 1) = some (pre.map (.int .i64)) := by
    unfold Zz.cut
    rw [if_pos (by omega), List.drop_zero, Nat.mul_one, hp]
  show Zz.byC H (.sref qi 0 0 1 n (some k)) = _
  simp only [Zz.byC, h1, e1, flat_ints, if_true]
theorem take_set {c : List AV} {n : Nat} {x : AV} (hn : n < c.length) : (c.set n x).take (n + 1) = c.take n ++ [x] := by
  rw [List.take_add_one, List.take_set_of_le (Nat.le_refl n)]
  simp [hn]
theorem findSome_none {α β : Type} {g : α → Option β} : ∀ {l : List α}, (∀ j (h : j < l.length), g l[j] = none) → l.findSome? g = none
  | [], _ => rfl
  | a :: l, h => by
    have h0 := h 0 (by simp)
    simp only [List.getElem_cons_zero] at h0
    simp only [List.findSome?_cons, h0]
    exact findSome_none fun j hj => by
      have := h (j + 1) (by simpa using hj)
      rwa [List.getElem_cons_succ] at this
theorem findSome_some {α β : Type} {g : α → Option β} {b : β} : ∀ {l : List α} {i : Nat} (hi : i < l.length), (∀ j (h : j < l.length), j < i → g l[j] = none) → g l[i] = some b → l.findSome? g = some b
  | [], i, hi, _, _ => by simp at hi
  | a :: l, 0, hi, _, h => by simp only [List.getElem_cons_zero] at h; simp [h]
  | a :: l, i + 1, hi, hn, h => by
    have h0 := hn 0 (by simp) (by omega)
    simp only [List.getElem_cons_zero] at h0
    simp only [List.findSome?_cons, h0]
    exact findSome_some (i := i) (by simpa using hi) (fun j hj hji => by
      have := hn (j + 1) (by simpa using hj) (by omega)
      rwa [List.getElem_cons_succ] at this) (by rwa [List.getElem_cons_succ] at h)

theorem get_drop0 {α : Type} {l r : List α} {n : Nat} {a : α} (h : l.drop n = a :: r) : l[n]? = some a := by
  have : (l.drop n)[0]? = some a := by rw [h]; rfl
  rwa [List.getElem?_drop, Nat.add_zero] at this
/-- What the search leaves. -/
def SOut (A : Nat → List AV → Hp) (k : Nat) (L : List (Option ALoop)) (pre : List Int) (v : AV) (m' : Mem) : Option (List Int) → Prop
  | some r => v = .bool true ∧ ∃ c' R', c'.length = k ∧ m' = ⟨A r.length c' ++ R', L⟩ ∧ c'.take r.length = r.map (.int .i64)
  | none => v = .bool false ∧ ∃ c' R', c'.length = k ∧ m' = ⟨A pre.length c' ++ R', L⟩ ∧ c'.take pre.length = pre.map (.int .i64)

theorem f52 {A : Nat → List AV → Hp} {pv vv : AV} {ps : List Pipe} {vs : List V6} {sup tol w : Int} {lists : List AV} {LS : List (List Int)} {k N b0 b1 b2 b3 b4 b5 qi ql gl : Nat} (hA : SF A pv vv sup tol w lists k N b0 b1 b2 b3 b4 b5 qi ql gl)
    (hq : PpL pv ps) (hmax : ps.length < 9223372036854775807) (hvv : VL6 vv vs) (hvs : okVs vs) (hv : VO ps sup tol) (hw : -100 ≤ w ∧ w ≤ 100) (hk : k = vs.length) (hk12 : k ≤ 12) (hLk : LS.length = k) (hll : lists.length = k) (hLS : ∀ i, i < k → IntS (lists.getD i und) (LS.getD i [])) (hLb : ∀ i, i < k → (LS.getD i []).length ≤ 120) {L : List (Option ALoop)} :
    ∀ (ls : List (List Int)) (pre : List Int) (c : List AV) (R : Hp), LS.drop pre.length = ls → pre.length + ls.length = k → c.length = k → c.take pre.length = pre.map (.int .i64) →
      WF E32 (.func 52 [] [.pref b0 0 0, .pref b1 0 0, .pref b2 0 0, .pref b3 0 0, .pref b4 0 0, .pref b5 0 0]) [] ⟨A pre.length c ++ R, L⟩ fun v m' => SOut A k L pre v m' (dfs (fun ids => decide (playsP ps sup tol ids vs w)) ls pre)
  | [], pre, c, R, hd, hpl, hc, hcp => by
    have hvl := hvv.len
    have l0 := hA.l0
    have l1 := hA.l1
    have l2 := hA.l2
    have l3 := hA.l3
    have hpk : pre.length = k := by simpa using hpl
    have hby : ∀ X, Zz.byVal (A pre.length c ++ X) (.sref qi 0 0 1 pre.length (some k)) = some (.sval (some k == some pre.length) pre.length (pre.map (.int .i64))) := fun X => byVal_ids (hA.lq _ _ _) rfl (by omega) hcp
    have h53 := fun X => s53 (sup := sup) (tol := tol) (w := w) hq hmax (IntS.mk pre _) hvv (by omega) (by omega) hvs hv hw (m := ⟨A pre.length c ++ X, L⟩) (hby X)
    refine WF.fnE rfl (fn_of Tryd.func52 cir52) (by show 6 ≤ 44; decide) ?_
    unfold ir52
    simp only [padTo, List.replicate, List.nil_append, List.append_nil, List.cons_append]
    repeat' (first | (refine WO.opE (by intro; simp (disch := first | omega | (simp only [hA.len])) only [go_sem, zeros, List.append_assoc, List.length_append, Nat.reduceAdd, Nat.reduceMul, Nat.reduceSub, Nat.reduceLeDiff, Nat.reduceEqDiff, Int.reduceNeg, Int.reduceAdd, Int.reduceToNat, reduceIte, reduceCtorEq, l0, l1, l2, l3]; rfl) (by simp only [pt8, pt0, pt1, pt2, pt3, pt4, pt5, pt6, pt7]; rfl) ?_) | (refine WO.opE (by intro; exact ev_lenS (by simp only [go_sem]; first | rfl | assumption)) (by simp only [pt8, pt0, pt1, pt2, pt3, pt4, pt5, pt6, pt7]; rfl) ?_) | (refine WO.specE rfl rfl (h53 _) (by simp only [pt8, pt0, pt1, pt2, pt3, pt4, pt5, pt6, pt7]; rfl) ?_) | (refine WC.seq ?_) | (refine WC.region ?_) | (refine WO.nil ?_) | (simp only [fl1, fl2, fl3, fl4, fl5, fl6, fl7, fl8, fl9, fl10, Nat.reduceBEq]) | (refine WC.ret ?_) | (refine WC.em2 rfl (fun hp => ?_) (fun hp => ?_) <;> try (exfalso; first | omega | contradiction)))
    · refine ⟨_, rfl, ?_⟩
      unfold dfs
      simp only [decide_eq_true_eq]
      by_cases hpl2 : playsP ps sup tol pre vs w
      · rw [if_pos hpl2]
        exact ⟨congrArg AV.bool (decide_eq_true hpl2), c, R, hc, rfl, hcp⟩
      · rw [if_neg hpl2]
        exact ⟨congrArg AV.bool (decide_eq_false hpl2), c, R, hc, rfl, hcp⟩
  | l :: ls, pre, c, R, hd, hpl, hc, hcp => by
    have hvl := hvv.len
    have l0 := hA.l0
    have l1 := hA.l1
    have l2 := hA.l2
    have l3 := hA.l3
    have l5 := hA.l5
    have lq := hA.lq
    have hpk : pre.length < k := by simp at hpl; omega
    have hln : lists ≠ [] := fun h => by rw [h] at hll; simp at hll; omega
    have l4 : ∀ n c X, Zz.look (A n c ++ X) b4 0 = some [.sref ql gl 0 1 lists.length none] := fun n c X => (hA.l4 n c X).resolve_right hln
    have ll : ∀ n c X, Zz.look (A n c ++ X) ql gl = some lists := fun n c X => (hA.ll n c X).resolve_right hln
    have hlg : LS.getD pre.length [] = l := by
      rw [List.getD_eq_getElem?_getD, get_drop0 hd]
      rfl
    have hx := hLS pre.length hpk
    have hlb := hLb pre.length hpk
    rw [hlg] at hx hlb
    generalize hxx : lists.getD pre.length und = x at *
    have hlx : lists[pre.length]? = some x := by
      rw [← hxx, List.getD_eq_getElem?_getD, List.getElem?_eq_getElem (by omega)]
      rfl
    have hxl := hx.len
    refine WF.fnE rfl (fn_of Tryd.func52 cir52) (by show 6 ≤ 44; decide) ?_
    unfold ir52
    simp only [padTo, List.replicate, List.nil_append, List.append_nil, List.cons_append]
    repeat' (first | (refine WO.opE (by intro; simp (disch := first | omega | (simp only [hA.len])) only [go_sem, zeros, List.append_assoc, List.length_append, Nat.reduceAdd, Nat.reduceMul, Nat.reduceSub, Nat.reduceLeDiff, Nat.reduceEqDiff, Int.reduceNeg, Int.reduceAdd, Int.reduceToNat, reduceIte, reduceCtorEq, l0, l1, l2, l3, l4, ll, ia_sref, hlx, Nat.mul_one]; rfl) (by simp only [pt8, pt0, pt1, pt2, pt3, pt4, pt5, pt6, pt7]; rfl) ?_) | (refine WO.opE (by intro; exact ev_lenS (by simp only [go_sem]; first | rfl | assumption)) (by simp only [pt8, pt0, pt1, pt2, pt3, pt4, pt5, pt6, pt7]; rfl) ?_) | (refine WC.seq ?_) | (refine WC.region ?_) | (refine WO.nil ?_) | (simp only [fl1, fl2, fl3, fl4, fl5, fl6, fl7, fl8, fl9, fl10, Nat.reduceBEq]) | (refine WC.skip ?_) | (refine WC.block ?_) | (refine WC.em2 rfl (fun hp => ?_) (fun hp => ?_) <;> try (exfalso; first | omega | contradiction)))
    refine WC.loopI (fun m s => ∃ T c R i, s = ⟨T, A pre.length c ++ R, L⟩ ∧ T.length = 44 ∧ gt T 0 = .pref b0 0 0 ∧ gt T 1 = .pref b1 0 0 ∧ gt T 2 = .pref b2 0 0 ∧ gt T 3 = .pref b3 0 0 ∧ gt T 4 = .pref b4 0 0 ∧ gt T 5 = .pref b5 0 0 ∧ gt T 23 = x ∧ gt T 24 = .int .i64 (l.length : Nat) ∧ gt T 25 = .int .i64 (i : Nat) ∧ m + i = l.length ∧ c.length = k ∧ c.take pre.length = pre.map (.int .i64) ∧ ∀ j (h : j < l.length), j < i → (if l[j] ∈ pre then none else dfs (fun ids => decide (playsP ps sup tol ids vs w)) ls (pre ++ [l[j]])) = none) ?_ l.length _ ⟨_, c, R, 0, rfl, rfl, rfl, rfl, rfl, rfl, rfl, rfl, rfl, rfl, rfl, by omega, hc, hcp, fun j _ hj => by omega⟩
    clear hc hcp c R
    rintro m _ ⟨T, c, R, i, rfl, hT, g0, g1, g2, g3, g4, g5, g23, g24, g25, hm, hc, hcp, hi⟩
    obtain ⟨f, rfl⟩ := ex44 hT
    clear hT
    replace g0 : f 0 = .pref b0 0 0 := g0
    replace g1 : f 1 = .pref b1 0 0 := g1
    replace g2 : f 2 = .pref b2 0 0 := g2
    replace g3 : f 3 = .pref b3 0 0 := g3
    replace g4 : f 4 = .pref b4 0 0 := g4
    replace g5 : f 5 = .pref b5 0 0 := g5
    replace g23 : f 23 = x := g23
    replace g24 : f 24 = .int .i64 (l.length : Nat) := g24
    replace g25 : f 25 = .int .i64 (i : Nat) := g25
    simp only [g0, g1, g2, g3, g4, g5, g23, g24, g25]
    have hby : ∀ X, Zz.byVal (A pre.length c ++ X) (.sref qi 0 0 1 pre.length (some k)) = some (.sval (some k == some pre.length) pre.length (pre.map (.int .i64))) := fun X => byVal_ids (hA.lq _ _ _) rfl (by omega) hcp
    by_cases hin : i < l.length
    · have hgi : l.getD i 0 = l[i] := by rw [List.getD_eq_getElem?_getD, List.getElem?_eq_getElem hin]; rfl
      have h42 := fun X => s42 (v := l.getD i 0) (IntS.mk pre (some k == some pre.length)) (by omega) (m := ⟨A pre.length c ++ X, L⟩) (hby X)
      by_cases hmem : l.getD i 0 ∈ pre
      · have hmem1 := hmem
        repeat' (first | (refine WO.opE (by intro; simp (disch := first | omega | (simp only [hA.len])) only [go_sem, zeros, List.append_assoc, List.length_append, Nat.reduceAdd, Nat.reduceMul, Nat.reduceSub, Nat.reduceLeDiff, Nat.reduceEqDiff, Int.reduceNeg, Int.reduceAdd, Int.reduceToNat, reduceIte, reduceCtorEq, l0, hx.atI, Nat.mul_one]; rfl) (by simp only [pt8, pt0, pt1, pt2, pt3, pt4, pt5, pt6, pt7]; rfl) ?_) | (refine WO.specE rfl rfl (h42 _) (by simp only [pt8, pt0, pt1, pt2, pt3, pt4, pt5, pt6, pt7]; rfl) ?_) | (refine WC.seq ?_) | (refine WC.region ?_) | (refine WO.nil ?_) | (simp only [fl1, fl2, fl3, fl4, fl5, fl6, fl7, fl8, fl9, fl10, Nat.reduceBEq]) | (refine WC.skip ?_) | (refine WC.exit ?_) | (refine WC.block ?_) | (refine WC.em2 rfl (fun hp => ?_) (fun hp => ?_) <;> try (exfalso; first | omega | contradiction)))
        refine ⟨m - 1, by omega, _, c, _, i + 1, rfl, rfl, rfl, rfl, rfl, rfl, rfl, rfl, rfl, rfl, rfl, by omega, hc, hcp, fun j hj hji => ?_⟩
        by_cases e : j = i
        · subst e; exact if_pos (by rw [← hgi]; exact hmem)
        · exact hi j hj (by omega)
      · have e1 := app_in (L := L) (hA.lq pre.length c (R ++ [some ⟨0, [.int .i64 (l.getD i 0)]⟩])) (lkr00 (hA.len pre.length c)) hpk hc
        rw [hA.sq] at e1
        repeat' (first | (refine WO.opE (by intro; simp (disch := first | omega | (simp only [hA.len])) only [go_sem, zeros, List.append_assoc, List.length_append, ov_one0, Nat.reduceAdd, Nat.reduceMul, Nat.reduceSub, Nat.reduceLeDiff, Nat.reduceEqDiff, Int.reduceNeg, Int.reduceAdd, Int.reduceToNat, reduceIte, reduceCtorEq, hA.len, l0, hx.atI, Nat.mul_one, hA.s0, l5]; rfl) (by simp only [pt8, pt0, pt1, pt2, pt3, pt4, pt5, pt6, pt7]; rfl) ?_) | (refine WO.opN (by intro; simp (disch := first | omega | (simp only [hA.len])) only [go_sem, zeros, List.append_assoc, List.length_append, ov_one0, Nat.reduceAdd, Nat.reduceMul, Nat.reduceSub, Nat.reduceLeDiff, Nat.reduceEqDiff, Int.reduceNeg, Int.reduceAdd, Int.reduceToNat, reduceIte, reduceCtorEq, hA.len, l0, hx.atI, Nat.mul_one, hA.s0, l5]; rfl) ?_) | (refine WO.specE rfl rfl (h42 _) (by simp only [pt8, pt0, pt1, pt2, pt3, pt4, pt5, pt6, pt7]; rfl) ?_) | (refine WO.opE (by intro; rw [ev_append]; exact e1) (by simp only [pt8, pt0, pt1, pt2, pt3, pt4, pt5, pt6, pt7]; rfl) ?_) | (refine WC.seq ?_) | (refine WC.region ?_) | (refine WO.nil ?_) | (simp only [fl1, fl2, fl3, fl4, fl5, fl6, fl7, fl8, fl9, fl10, Nat.reduceBEq]) | (refine WC.skip ?_) | (refine WC.block ?_) | (refine WC.em2 rfl (fun hp => ?_) (fun hp => ?_) <;> try (exfalso; first | omega | contradiction)))
        have ih := f52 hA hq hmax hvv hvs hv hw hk hk12 hLk hll hLS hLb (L := L) ls (pre ++ [l.getD i 0]) (c.set pre.length (.int .i64 (l.getD i 0))) (R ++ [some ⟨0, [.int .i64 (l.getD i 0)]⟩]) (by
          rw [List.length_append, List.length_cons, List.length_nil]
          rw [← List.drop_drop, hd]
          rfl) (by simp at hpl ⊢; omega) (by simpa using hc) (by
          rw [List.length_append, List.length_cons, List.length_nil, take_set (by omega), hcp]
          simp)
        rw [List.length_append, List.length_cons, List.length_nil] at ih
        refine WO.call rfl rfl (ih.mono ?_)
        rintro v m' hout
        cases hdf : dfs (fun ids => decide (playsP ps sup tol ids vs w)) ls (pre ++ [l.getD i 0]) with
        | some r =>
          rw [hdf] at hout
          obtain ⟨rfl, c', R', hc', rfl, hcp'⟩ := hout
          simp only [pt8, pt0, pt1, pt2, pt3, pt4, pt5, pt6, pt7, gt8, gt0, gt1, gt2, gt3, gt4, gt5, gt6, gt7]
          repeat' (first | (refine WO.opE (by intro; simp (disch := omega) only [go_sem, zeros, List.append_assoc, List.length_append, Nat.reduceAdd, Nat.reduceMul, Nat.reduceSub, Nat.reduceLeDiff, Nat.reduceEqDiff, Int.reduceNeg, Int.reduceAdd, Int.reduceToNat, reduceIte, reduceCtorEq]; rfl) (by simp only [pt8, pt0, pt1, pt2, pt3, pt4, pt5, pt6, pt7]; rfl) ?_) | (refine WC.seq ?_) | (refine WC.region ?_) | (refine WO.nil ?_) | (simp only [fl1, fl2, fl3, fl4, fl5, fl6, fl7, fl8, fl9, fl10, Nat.reduceBEq]) | (refine WC.yes rfl ?_) | (refine WC.ret ?_))
          refine ⟨_, rfl, ?_⟩
          have hres : dfs (fun ids => decide (playsP ps sup tol ids vs w)) (l :: ls) pre = some r := by
            unfold dfs
            refine findSome_some hin hi ?_
            rw [← hgi, if_neg hmem]
            exact hdf
          rw [hres]
          exact ⟨rfl, c', R', hc', rfl, hcp'⟩
        | none =>
          rw [hdf] at hout
          obtain ⟨rfl, c', R', hc', rfl, hcp'⟩ := hout
          rw [List.length_append, List.length_cons, List.length_nil] at hcp' ⊢
          simp only [pt8, pt0, pt1, pt2, pt3, pt4, pt5, pt6, pt7, gt8, gt0, gt1, gt2, gt3, gt4, gt5, gt6, gt7]
          have es : ∀ X, sliceAV X 1 (.sref qi 0 0 1 (pre.length + (0 + 1)) (some k)) none (some (.int .i64 (((pre.length + (0 + 1) : Nat) : Int) - 1))) none = some (.sref qi 0 0 1 pre.length (some k)) := fun X => by
            rw [show (((pre.length + (0 + 1) : Nat) : Int) - 1) = (pre.length : Int) by omega]
            exact slice_back (by omega)
          repeat' (first | (refine WO.opE (by intro; simp (disch := first | omega | (simp only [hA.len])) only [go_sem, zeros, List.append_assoc, List.length_append, ov_one0, Nat.reduceAdd, Nat.reduceMul, Nat.reduceSub, Nat.reduceLeDiff, Nat.reduceEqDiff, Int.reduceNeg, Int.reduceAdd, Int.reduceToNat, reduceIte, reduceCtorEq, l0, es, Option.map_none, Option.map_some, hA.s0]; rfl) (by simp only [pt8, pt0, pt1, pt2, pt3, pt4, pt5, pt6, pt7]; rfl) ?_) | (refine WO.opN (by intro; simp (disch := first | omega | (simp only [hA.len])) only [go_sem, zeros, List.append_assoc, List.length_append, ov_one0, Nat.reduceAdd, Nat.reduceMul, Nat.reduceSub, Nat.reduceLeDiff, Nat.reduceEqDiff, Int.reduceNeg, Int.reduceAdd, Int.reduceToNat, reduceIte, reduceCtorEq, l0, es, Option.map_none, Option.map_some, hA.s0]; rfl) ?_) | (refine WO.opE (by intro; exact ev_lenS (by simp only [go_sem]; first | rfl | assumption)) (by simp only [pt8, pt0, pt1, pt2, pt3, pt4, pt5, pt6, pt7]; rfl) ?_) | (refine WC.region ?_) | (refine WO.nil ?_) | (simp only [fl1, fl2, fl3, fl4, fl5, fl6, fl7, fl8, fl9, fl10, Nat.reduceBEq]) | (refine WC.no rfl ?_) | (refine WC.skip ?_))
          refine ⟨m - 1, by omega, _, c', _, i + 1, rfl, rfl, rfl, rfl, rfl, rfl, rfl, rfl, rfl, rfl, rfl, by omega, hc', ?_, fun j hj hji => ?_⟩
          · have := congrArg (List.take pre.length) hcp'
            have e2 : (pre.map (AV.int .i64)).take pre.length = pre.map (.int .i64) := List.take_of_length_le (by simp)
            rwa [List.take_take, Nat.min_eq_left (by omega), List.map_append, List.take_append_of_le_length (by simp), e2] at this
          · by_cases e : j = i
            · subst e
              rw [← hgi, if_neg hmem]
              exact hdf
            · exact hi j hj (by omega)
    · have hi' : i = l.length := by omega
      subst hi'
      repeat' (first | (refine WO.opE (by intro; simp (disch := omega) only [go_sem, zeros, List.append_assoc, List.length_append, Nat.reduceAdd, Nat.reduceMul, Nat.reduceSub, Nat.reduceLeDiff, Nat.reduceEqDiff, Int.reduceNeg, Int.reduceAdd, Int.reduceToNat, reduceIte, reduceCtorEq]; rfl) (by simp only [pt8, pt0, pt1, pt2, pt3, pt4, pt5, pt6, pt7]; rfl) ?_) | (refine WC.seq ?_) | (refine WC.region ?_) | (refine WO.nil ?_) | (simp only [fl1, fl2, fl3, fl4, fl5, fl6, fl7, fl8, fl9, fl10, Nat.reduceBEq]) | (refine WC.exit ?_) | (refine WC.ret ?_) | (refine WC.em2 rfl (fun hp => ?_) (fun hp => ?_) <;> try (exfalso; first | omega | contradiction)))
      refine ⟨_, rfl, ?_⟩
      have hres : dfs (fun ids => decide (playsP ps sup tol ids vs w)) (l :: ls) pre = none := by
        unfold dfs
        exact findSome_none fun j hj => hi j hj hj
      rw [hres]
      exact ⟨rfl, c, R, hc, rfl, hcp⟩
end Go.Proofs.YtjbdefmhjmkifaaDoor


set_option linter.unusedSimpArgs false
set_option linter.unusedVariables false
namespace Go.Proofs.YtjbdefmhjmkifaaDoor
open Go.Zz
set_option maxRecDepth 100000
set_option maxHeartbeats 4000000
theorem f75 {vv : AV} {vs : List V6} {H : Hp} {L : List (Option ALoop)} (hvv : VL6 vv vs) (hmax : vs.length < 9223372036854775807) : WF E32 (.func 75 [] []) [vv, .func 49 [] []] ⟨H, L⟩ fun y m' => ∃ k : Int, y = .int .i64 k ∧ (0 ≤ k ↔ ¬ okVs vs) ∧ m' = ⟨H, L⟩ := by
  have hvl := hvv.len
  refine WF.fnE rfl (fn_of Tryd.func75 cir75) (by show 2 ≤ 19; decide) ?_
  unfold ir75
  simp only [padTo, List.replicate, List.nil_append, List.append_nil, List.cons_append]
  repeat' (first | (refine WO.opE (by intro; simp (disch := omega) only [go_sem, zeros, Zz.look, List.append_assoc, List.length_append, ov_one0, ov_all2, ov_all6, Nat.reduceAdd, Nat.reduceMul, Nat.reduceSub, Nat.reduceLeDiff, Nat.reduceEqDiff, Int.reduceNeg, Int.reduceAdd, Int.reduceToNat, reduceIte, reduceCtorEq]; rfl) (by simp only [pt8, pt0, pt1, pt2, pt3, pt4, pt5, pt6, pt7]; rfl) ?_) | (refine WO.opE (by intro; exact ev_lenS (by simp only [go_sem]; first | rfl | assumption)) (by simp only [pt8, pt0, pt1, pt2, pt3, pt4, pt5, pt6, pt7]; rfl) ?_) | (refine WC.seq ?_) | (refine WC.region ?_) | (refine WO.nil ?_) | (simp only [fl1, fl2, fl3, fl4, fl5, fl6, fl7, fl8, fl9, fl10, Nat.reduceBEq]) | (refine WC.block ?_))
  refine WC.loopI (fun m s => ∃ T i, s = ⟨T, H, L⟩ ∧ T.length = 19 ∧ gt T 0 = vv ∧ gt T 1 = .func 49 [] [] ∧ gt T 7 = .int .i64 (vs.length : Nat) ∧ gt T 8 = .int .i64 (i : Nat) ∧ m + i = vs.length ∧ ∀ j, j < i → (nv vs j).ok 48) ?_ vs.length _ ⟨_, 0, rfl, rfl, rfl, rfl, rfl, rfl, by omega, fun j hj => by omega⟩
  rintro m _ ⟨T, i, rfl, hT, g0, g1, g7, g8, hm, hi⟩
  obtain ⟨f, rfl⟩ := ex19 hT
  clear hT
  replace g0 : f 0 = vv := g0
  replace g1 : f 1 = .func 49 [] [] := g1
  replace g7 : f 7 = .int .i64 (vs.length : Nat) := g7
  replace g8 : f 8 = .int .i64 (i : Nat) := g8
  simp only [g0, g1, g7, g8]
  by_cases hin : i < vs.length
  · have h49 := fun m => s49 (v := nv vs i) (m := m)
    repeat' (first | (refine WO.opE (by intro; simp (disch := omega) only [go_sem, zeros, List.append_assoc, List.length_append, ov_all6, ov_one0, Nat.reduceAdd, Nat.reduceMul, Nat.reduceSub, Nat.reduceLeDiff, Nat.reduceEqDiff, Int.reduceNeg, Int.reduceAdd, Int.reduceToNat, reduceIte, reduceCtorEq, hvv.at, cut6]; rfl) (by simp only [pt8, pt0, pt1, pt2, pt3, pt4, pt5, pt6, pt7]; rfl) ?_) | (refine WO.callE rfl rfl (WF.spec rfl (h49 _) ⟨rfl, rfl⟩) (by simp only [pt8, pt0, pt1, pt2, pt3, pt4, pt5, pt6, pt7]; rfl) ?_) | (refine WC.seq ?_) | (refine WC.region ?_) | (refine WO.nil ?_) | (simp only [fl1, fl2, fl3, fl4, fl5, fl6, fl7, fl8, fl9, fl10, Nat.reduceBEq]) | (refine WC.skip ?_) | (refine WC.ret ?_) | (refine WC.block ?_) | (refine WC.em2 rfl (fun hp => ?_) (fun hp => ?_) <;> try (exfalso; first | omega | contradiction)))
    · exact ⟨_, rfl, (i : Nat), rfl, ⟨fun _ h => hp (h.at hin), fun _ => by omega⟩, rfl⟩
    · exact ⟨m - 1, by omega, _, i + 1, rfl, rfl, rfl, rfl, rfl, rfl, by omega, fun j hj => by
        by_cases e : j = i
        · subst e; exact Decidable.of_not_not hp
        · exact hi j (by omega)⟩
  · have hi' : i = vs.length := by omega
    subst hi'
    repeat' (first | (refine WO.opE (by intro; simp (disch := omega) only [go_sem, zeros, List.append_assoc, List.length_append, ov_all6, ov_one0, Nat.reduceAdd, Nat.reduceMul, Nat.reduceSub, Nat.reduceLeDiff, Nat.reduceEqDiff, Int.reduceNeg, Int.reduceAdd, Int.reduceToNat, reduceIte, reduceCtorEq]; rfl) (by simp only [pt8, pt0, pt1, pt2, pt3, pt4, pt5, pt6, pt7]; rfl) ?_) | (refine WC.seq ?_) | (refine WC.region ?_) | (refine WO.nil ?_) | (simp only [fl1, fl2, fl3, fl4, fl5, fl6, fl7, fl8, fl9, fl10, Nat.reduceBEq]) | (refine WC.exit ?_) | (refine WC.ret ?_) | (refine WC.em2 rfl (fun hp => ?_) (fun hp => ?_) <;> try (exfalso; first | omega | contradiction)))
    refine ⟨_, rfl, -1, rfl, ⟨fun h => by omega, fun h => absurd (fun v hv => ?_) h⟩, rfl⟩
    obtain ⟨j, hj, rfl⟩ := List.getElem_of_mem hv
    rw [← nv_lt hj]
    exact hi j hj
theorem f48 {vv : AV} {vs : List V6} {H : Hp} {L : List (Option ALoop)} (hvv : VL6 vv vs) (hmax : vs.length < 9223372036854775807) : WF E32 (.func 48 [] []) [vv, .func 49 [] []] ⟨H, L⟩ fun y m' => y = .bool (decide (¬ okVs vs)) ∧ m' = ⟨H, L⟩ := by
  refine WF.fnE rfl (fn_of Tryd.func48 cir48) (by show 2 ≤ 9; decide) ?_
  unfold ir48
  simp only [padTo, List.replicate, List.nil_append, List.append_nil, List.cons_append]
  repeat' (first | (refine WO.opE (by intro; simp (disch := omega) only [go_sem, zeros, List.append_assoc, List.length_append, ov_all6, ov_one0, Nat.reduceAdd, Nat.reduceMul, Nat.reduceSub, Nat.reduceLeDiff, Nat.reduceEqDiff, Int.reduceNeg, Int.reduceAdd, Int.reduceToNat, reduceIte, reduceCtorEq]; rfl) (by simp only [pt8, pt0, pt1, pt2, pt3, pt4, pt5, pt6, pt7]; rfl) ?_) | (refine WC.seq ?_) | (refine WC.region ?_) | (refine WO.nil ?_) | (simp only [fl1, fl2, fl3, fl4, fl5, fl6, fl7, fl8, fl9, fl10, Nat.reduceBEq]))
  refine WO.call rfl rfl ((f75 hvv hmax).mono ?_)
  rintro v m' ⟨k, rfl, hk, rfl⟩
  simp only [pt8, pt0, pt1, pt2, pt3, pt4, pt5, pt6, pt7, gt8, gt0, gt1, gt2, gt3, gt4, gt5, gt6, gt7]
  repeat' (first | (refine WO.opE (by intro; simp (disch := omega) only [go_sem, zeros, List.append_assoc, List.length_append, ov_all6, ov_one0, Nat.reduceAdd, Nat.reduceMul, Nat.reduceSub, Nat.reduceLeDiff, Nat.reduceEqDiff, Int.reduceNeg, Int.reduceAdd, Int.reduceToNat, reduceIte, reduceCtorEq]; rfl) (by simp only [pt8, pt0, pt1, pt2, pt3, pt4, pt5, pt6, pt7]; rfl) ?_) | (refine WO.nil ?_) | (refine WC.ret ?_))
  refine ⟨_, rfl, ?_, rfl⟩
  simp only [oneRes, gt8, gt0, gt1, gt2, gt3, gt4, gt5, gt6, gt7, AV.bool.injEq]
  rw [decide_eq_decide]
  exact hk
/-! ### Chord -/
def LSof (ps : List Pipe) (tol : Int) (vs : List V6) : List (List Int) := vs.map fun v => findL ps tol v ps.length
def prodN (LS : List (List Int)) : Nat → Int
  | 0 => 1
  | i + 1 => if prodN LS i ≤ 10000 then prodN LS i * (LS.getD i []).length else prodN LS i
theorem prodN_bnd {LS : List (List Int)} (h : ∀ i, (LS.getD i []).length ≤ 120) : ∀ i, 0 ≤ prodN LS i ∧ prodN LS i ≤ 1200000
  | 0 => by simp [prodN]
  | i + 1 => by
    have ih := prodN_bnd h i
    have := h i
    unfold prodN
    split
    · rename_i hp
      have m1 := mul_bnd ih.1 hp (b := ((LS.getD i []).length : Int)) (B := 120) (by omega) (by omega)
      have m2 : 0 ≤ prodN LS i * ((LS.getD i []).length : Int) := Int.mul_nonneg ih.1 (by omega)
      omega
    · exact ih
def chordOk (ps : List Pipe) (sup tol : Int) (vs : List V6) (w : Int) : Prop := VO ps sup tol ∧ (-100 ≤ w ∧ w ≤ 100) ∧ vs.length ≤ 12 ∧ okVs vs
instance (ps : List Pipe) (sup tol : Int) (vs : List V6) (w : Int) : Decidable (chordOk ps sup tol vs w) := by unfold chordOk; infer_instance
def findC (ps : List Pipe) (sup tol : Int) (vs : List V6) (w : Int) : Option (List Int) := dfs (fun ids => decide (playsP ps sup tol ids vs w)) (LSof ps tol vs) []
/-- Chord's error. -/
def chordE (ps : List Pipe) (sup tol : Int) (vs : List V6) (w : Int) : Int :=
  if chordOk ps sup tol vs w then if ∃ j, j < vs.length ∧ (LSof ps tol vs).getD j [] = [] then 4 else if 10000 < prodN (LSof ps tol vs) vs.length then 2 else if (findC ps sup tol vs w).isSome then 0 else 21 else 1
theorem f21bad {pv vv : AV} {ps : List Pipe} {vs : List V6} {sup tol w : Int} (hq : PpL pv ps) (hmax : ps.length < 9223372036854775807) (hvv : VL6 vv vs) (hvmax : vs.length < 9223372036854775807) (hok : ¬ chordOk ps sup tol vs w) :
    WF E32 (.func 21 [] []) [.agg [pv, .int .i64 sup, .int .i64 tol], vv, .int .i64 w] ⟨[], []⟩ fun y m' => y = .tuple [.snil, .int .i64 1] := by
  have hvl := hvv.len
  have hvc := SL.cells hvv
  have hvc2 := hvc
  unfold AV.cells at hvc2
  have hok2 : ¬ (VO ps sup tol ∧ (-100 ≤ w ∧ w ≤ 100) ∧ vs.length ≤ 12 ∧ okVs vs) := hok
  refine WF.fnE rfl (fn_of Tryd.func21 cir21) (by show 3 ≤ 76; decide) ?_
  unfold ir21
  simp only [padTo, List.replicate, List.nil_append, List.append_nil, List.cons_append]
  repeat' (first | (refine WO.yes rfl ?_) | (refine WO.noE rfl (by simp only [pt8, pt0, pt1, pt2, pt3, pt4, pt5, pt6, pt7]; rfl) ?_) | (refine WO.opE (by intro; simp (disch := omega) only [go_sem, zeros, Zz.look, List.append_assoc, List.length_append, ov_one0, ov_all2, ov_all6, Nat.reduceAdd, Nat.reduceMul, Nat.reduceSub, Nat.reduceLeDiff, Nat.reduceEqDiff, Int.reduceNeg, Int.reduceAdd, Int.reduceToNat, reduceIte, reduceCtorEq, hvc2]; rfl) (by simp only [pt8, pt0, pt1, pt2, pt3, pt4, pt5, pt6, pt7]; rfl) ?_) | (refine WO.opE (by intro; exact ev_lenS (by simp only [go_sem]; first | rfl | assumption)) (by simp only [pt8, pt0, pt1, pt2, pt3, pt4, pt5, pt6, pt7]; rfl) ?_) | (refine WO.specE rfl rfl (s14 hq hmax) (by simp only [pt8, pt0, pt1, pt2, pt3, pt4, pt5, pt6, pt7]; rfl) ?_) | (refine WO.specE rfl rfl (s45) (by simp only [pt8, pt0, pt1, pt2, pt3, pt4, pt5, pt6, pt7]; rfl) ?_) | (refine WO.callE rfl rfl (f48 hvv hvmax) (by simp only [pt8, pt0, pt1, pt2, pt3, pt4, pt5, pt6, pt7]; rfl) ?_) | (refine WC.seq ?_) | (refine WC.region ?_) | (refine WO.nil ?_) | (simp only [fl1, fl2, fl3, fl4, fl5, fl6, fl7, fl8, fl9, fl10, Nat.reduceBEq]) | (refine WC.yes rfl ?_) | (refine WC.skip ?_) | (refine WC.ret ?_) | (refine WC.block ?_) | (refine WO.em2 rfl (by intro hp; simp only [hp, decide_true]; rfl) (by intro hp; simp only [hp, decide_false]; rfl) (fun hp => ?_) (fun hp => ?_) <;> try (exfalso; first | omega | contradiction)) | (refine WC.em2 rfl (fun hp => ?_) (fun hp => ?_) <;> try (exfalso; first | omega | contradiction)))
  all_goals first
    | exact ⟨_, rfl, rfl⟩
    | exact absurd ⟨Decidable.of_not_not ‹¬¬VO ps sup tol›, by omega, by omega, by first | assumption | exact Decidable.of_not_not ‹_›⟩ hok2
end Go.Proofs.YtjbdefmhjmkifaaDoor


set_option linter.unusedSimpArgs false
set_option linter.unusedVariables false
namespace Go.Proofs.YtjbdefmhjmkifaaDoor
open Go.Zz
set_option maxRecDepth 100000
set_option maxHeartbeats 4000000
theorem new2 {H : Hp} {v x : AV} {k : IntKind} {n : Int} (h : newC H v = some x) : newV H (.tuple [v, .int k n]) = some (.tuple [x, .int k n]) := by
  have h2 : newA H v = some x := by
    cases v <;> first | exact h | (simp [Zz.newC] at h)
  simp only [newV, newT, h2]
  rfl
theorem LSof_at {ps : List Pipe} {tol : Int} {vs : List V6} {i : Nat} (h : i < vs.length) : (LSof ps tol vs).getD i [] = findL ps tol (nv vs i) ps.length := by
  simp [LSof, nv, List.getD_eq_getElem?_getD, h]
theorem LSof_len {ps : List Pipe} {tol : Int} {vs : List V6} : (LSof ps tol vs).length = vs.length := by simp [LSof]
theorem LSof_le {ps : List Pipe} {sup tol : Int} {vs : List V6} (hv : VO ps sup tol) (i : Nat) : ((LSof ps tol vs).getD i []).length ≤ 120 := by
  by_cases h : i < vs.length
  · rw [LSof_at h]
    exact Nat.le_trans findL_len hv.2.1
  · rw [List.getD_eq_getElem?_getD, List.getElem?_eq_none (by rw [LSof_len]; omega)]
    simp
theorem ex_succ {LS : List (List Int)} {i : Nat} : (∃ j, j < i + 1 ∧ LS.getD j [] = []) ↔ (∃ j, j < i ∧ LS.getD j [] = []) ∨ LS.getD i [] = [] := by
  constructor
  · rintro ⟨j, h1, h2⟩
    by_cases e : j = i
    · subst e; exact .inr h2
    · exact .inl ⟨j, by omega, h2⟩
  · rintro (⟨j, h1, h2⟩ | h)
    · exact ⟨j, by omega, h2⟩
    · exact ⟨i, by omega, h⟩
theorem f21 {pv vv : AV} {ps : List Pipe} {vs : List V6} {sup tol w : Int} (hq : PpL pv ps) (hmax : ps.length < 9223372036854775807) (hvv : VL6 vv vs) (hvmax : vs.length < 9223372036854775807) (hok : chordOk ps sup tol vs w) :
    WF E32 (.func 21 [] []) [.agg [pv, .int .i64 sup, .int .i64 tol], vv, .int .i64 w] ⟨[], []⟩ fun y m' => ∃ x, newV m'.heap y = some (.tuple [x, .int .i64 (chordE ps sup tol vs w)]) ∧ (chordE ps sup tol vs w = 0 → ∃ r, findC ps sup tol vs w = some r ∧ IntS x r) ∧ (chordE ps sup tol vs w ≠ 0 → x = .snil) := by
  have hvl := hvv.len
  have hvc := SL.cells hvv
  have hvc2 := hvc
  unfold AV.cells at hvc2
  have hce : chordE ps sup tol vs w = if ∃ j, j < vs.length ∧ (LSof ps tol vs).getD j [] = [] then 4 else if 10000 < prodN (LSof ps tol vs) vs.length then 2 else if (findC ps sup tol vs w).isSome then 0 else 21 := if_pos hok
  have hfc : findC ps sup tol vs w = dfs (fun ids => decide (playsP ps sup tol ids vs w)) (LSof ps tol vs) [] := rfl
  obtain ⟨hv, hw, h12, hvs⟩ := hok
  have hLb := LSof_le (vs := vs) hv
  have hpb := prodN_bnd hLb
  have hLl := LSof_len (ps := ps) (tol := tol) (vs := vs)
  have hLat : ∀ i, i < vs.length → (LSof ps tol vs).getD i [] = findL ps tol (nv vs i) ps.length := fun i hi => LSof_at hi
  have hX0 : ∀ i : Nat, ∃ x : AV, i < vs.length → IntS x ((LSof ps tol vs).getD i []) ∧ ∀ m, borrowE E29 51 [.agg [pv, .int .i64 sup, .int .i64 tol], .agg (nv vs i).cells] m = some (x, m) := fun i => by
    obtain ⟨x, x1, x2, x3⟩ := s35 (sup := sup) (tol := tol) (w := nv vs i) hq hmax
    refine ⟨x, fun hi => ?_⟩
    rw [hLat i hi]
    have h1 := x1 ⟨hv, hvs.at hi⟩
    exact ⟨h1.1, fun m => s51 hq h1.1 x3⟩
  obtain ⟨X, hX⟩ := Classical.axiomOfChoice hX0
  clear hX0
  generalize LSof ps tol vs = LS at *
  have hok2 : ¬ ¬ okVs vs := fun h => h hvs
  refine WF.fnE rfl (fn_of Tryd.func21 cir21) (by show 3 ≤ 76; decide) ?_
  unfold ir21
  simp only [padTo, List.replicate, List.nil_append, List.append_nil, List.cons_append]
  repeat' (first | (refine WO.yes rfl ?_) | (refine WO.opE (by intro; simp (disch := omega) only [go_sem, zeros, Zz.look, List.append_assoc, List.length_append, ov_one0, ov_all2, ov_all6, Nat.reduceAdd, Nat.reduceMul, Nat.reduceSub, Nat.reduceLeDiff, Nat.reduceEqDiff, Int.reduceNeg, Int.reduceAdd, Int.reduceToNat, reduceIte, reduceCtorEq, hvc2, fillP, Option.bind_eq_bind, List.map_cons, List.map_nil]; rfl) (by simp only [pt8, pt0, pt1, pt2, pt3, pt4, pt5, pt6, pt7]; rfl) ?_) | (refine WO.opE (by intro; exact ev_lenS (by simp only [go_sem]; first | rfl | assumption)) (by simp only [pt8, pt0, pt1, pt2, pt3, pt4, pt5, pt6, pt7]; rfl) ?_) | (refine WO.specE rfl rfl (s14 hq hmax) (by simp only [pt8, pt0, pt1, pt2, pt3, pt4, pt5, pt6, pt7]; rfl) ?_) | (refine WO.specE rfl rfl (s45) (by simp only [pt8, pt0, pt1, pt2, pt3, pt4, pt5, pt6, pt7]; rfl) ?_) | (refine WO.callE rfl rfl (f48 hvv hvmax) (by simp only [pt8, pt0, pt1, pt2, pt3, pt4, pt5, pt6, pt7]; rfl) ?_) | (refine WC.seq ?_) | (refine WC.region ?_) | (refine WO.nil ?_) | (simp only [fl1, fl2, fl3, fl4, fl5, fl6, fl7, fl8, fl9, fl10, Nat.reduceBEq]) | (refine WC.skip ?_) | (refine WC.block ?_) | (refine WO.em2 rfl (by intro hp; simp only [hp, decide_true]; rfl) (by intro hp; simp only [hp, decide_false]; rfl) (fun hp => ?_) (fun hp => ?_) <;> try (exfalso; first | omega | contradiction)) | (refine WC.em2 rfl (fun hp => ?_) (fun hp => ?_) <;> try (exfalso; first | omega | contradiction)))
  refine WC.loopI (fun m s => ∃ T H i v q, s = ⟨T, H, []⟩ ∧ T.length = 76 ∧ gt T 3 = .pref 0 0 0 ∧ gt T 4 = .pref 1 0 0 ∧ gt T 5 = .pref 2 0 0 ∧ gt T 8 = .func 51 [.agg [pv, .int .i64 sup, .int .i64 tol]] [] ∧ gt T 9 = .int .i64 (prodN LS i) ∧ gt T 10 = .bool (decide (∃ j, j < i ∧ LS.getD j [] = [])) ∧ gt T 11 = .pref 3 0 0 ∧ gt T 37 = vv ∧ gt T 38 = .int .i64 (vs.length : Nat) ∧ gt T 39 = .int .i64 (i : Nat) ∧ m + i = vs.length ∧ (Zz.look H 0 0 = some [pv, .int .i64 sup, .int .i64 tol] ∧ Zz.look H 1 0 = some [vv] ∧ Zz.look H 2 0 = some [.int .i64 w] ∧ Zz.look H 3 0 = some [v]) ∧ GS 1 H v q ((List.range i).map X) ∧ 4 ≤ q) ?_ vs.length _ ⟨_, _, 0, _, 4, rfl, rfl, rfl, rfl, rfl, rfl, rfl, by
    simp only [gt8, gt0, gt1, gt2, gt3, gt4, gt5, gt6, gt7, AV.bool.injEq]
    symm
    rw [decide_eq_false_iff_not]
    rintro ⟨j, hj, _⟩
    omega, rfl, rfl, rfl, rfl, by omega, ⟨rfl, rfl, rfl, rfl⟩, .inl ⟨rfl, rfl⟩, by omega⟩
  rintro m _ ⟨T, H, i, v, q, rfl, hT, g3, g4, g5, g8, g9, g10, g11, g37, g38, g39, hm, ⟨k0, k1, k2, k3⟩, hg, hq4⟩
  obtain ⟨f, rfl⟩ := ex76 hT
  clear hT
  replace g3 : f 3 = .pref 0 0 0 := g3
  replace g4 : f 4 = .pref 1 0 0 := g4
  replace g5 : f 5 = .pref 2 0 0 := g5
  replace g8 : f 8 = .func 51 [.agg [pv, .int .i64 sup, .int .i64 tol]] [] := g8
  replace g9 : f 9 = .int .i64 (prodN LS i) := g9
  replace g10 : f 10 = .bool (decide (∃ j, j < i ∧ LS.getD j [] = [])) := g10
  replace g11 : f 11 = .pref 3 0 0 := g11
  replace g37 : f 37 = vv := g37
  replace g38 : f 38 = .int .i64 (vs.length : Nat) := g38
  replace g39 : f 39 = .int .i64 (i : Nat) := g39
  simp only [g3, g4, g5, g8, g9, g10, g11, g37, g38, g39]
  have l3 := look_lt k3
  by_cases hin : i < vs.length
  · obtain ⟨hXi, hX51⟩ := hX i hin
    have hXl := hXi.len
    have hXc := hXi.cells
    unfold AV.cells at hXc
    have hpi := hpb i
    have hlbi := hLb i
    have mb := mul_bnd hpi.1 hpi.2 (b := ((LS.getD i []).length : Int)) (B := 120) (by omega) (by omega)
    have hps : prodN LS (i + 1) = if prodN LS i ≤ 10000 then prodN LS i * (LS.getD i []).length else prodN LS i := rfl
    obtain ⟨v', q', H1, e1, a1, a2, a3, a4⟩ := (hg.more [some ⟨0, (nv vs i).cells⟩, some ⟨0, [X i]⟩]).append (L := []) (bytes := 24) (n := 1) (cap := some 1) (id := H.length + 1) (lk1 rfl) rfl Nat.one_pos Nat.one_pos ⟨by rw [Nat.div_one]; simp; omega, by rw [Nat.div_one]; simp; omega⟩
    have hkk : ∀ j, j < H.length → j ≠ q → H1[j]? = H[j]? := fun j h1 h2 => by rw [a4 j (by simp; omega) h2, List.getElem?_append_left h1]
    have j3 : Zz.look H1 3 0 = some [v] := by rw [look_of_get (hkk 3 (by omega) (by omega))]; exact k3
    have hq4' : 4 ≤ q' := by
      rcases a2 with rfl | rfl
      · exact hq4
      · first | (simp; done) | (simp; omega)
    have t1 : (List.range i).map X ++ [X i] = (List.range (i + 1)).map X := by rw [List.range_succ, List.map_append]; rfl
    rw [t1] at a1
    obtain ⟨g', n', rfl, d1, d2, d3⟩ := a1.ref (by simp [List.range_succ])
    repeat' (first | (refine WO.yes rfl ?_) | (refine WO.noE rfl (by simp only [pt8, pt0, pt1, pt2, pt3, pt4, pt5, pt6, pt7]; rfl) ?_) | (refine WO.opE (by intro; simp (disch := omega) only [go_sem, zeros, List.append_assoc, List.length_append, ov_all6, ov_one0, Nat.reduceAdd, Nat.reduceMul, Nat.reduceSub, Nat.reduceLeDiff, Nat.reduceEqDiff, Int.reduceNeg, Int.reduceAdd, Int.reduceToNat, reduceIte, reduceCtorEq, hvv.at, cut6, V6.cells, fillP, hXc, Option.bind_eq_bind, lk0, lk1, st0, st1, k0, k1, k2, k3, j3, look_left]; rfl) (by simp only [pt8, pt0, pt1, pt2, pt3, pt4, pt5, pt6, pt7]; rfl) ?_) | (refine WO.opN (by intro; simp (disch := omega) only [go_sem, zeros, List.append_assoc, List.length_append, ov_all6, ov_one0, Nat.reduceAdd, Nat.reduceMul, Nat.reduceSub, Nat.reduceLeDiff, Nat.reduceEqDiff, Int.reduceNeg, Int.reduceAdd, Int.reduceToNat, reduceIte, reduceCtorEq, hvv.at, cut6, V6.cells, fillP, hXc, Option.bind_eq_bind, lk0, lk1, st0, st1, k0, k1, k2, k3, j3, look_left]; rfl) ?_) | (refine WO.opE (by intro; exact ev_lenS (by simp only [go_sem]; first | rfl | assumption)) (by simp only [pt8, pt0, pt1, pt2, pt3, pt4, pt5, pt6, pt7]; rfl) ?_) | (refine WO.callE rfl rfl (WF.spec rfl (hX51 _) ⟨rfl, rfl⟩) (by simp only [pt8, pt0, pt1, pt2, pt3, pt4, pt5, pt6, pt7]; rfl) ?_) | (refine WO.opE (by intro; rw [ev_append]; exact e1) (by simp only [pt8, pt0, pt1, pt2, pt3, pt4, pt5, pt6, pt7]; rfl) ?_) | (refine WC.seq ?_) | (refine WC.region ?_) | (refine WO.nil ?_) | (simp only [fl1, fl2, fl3, fl4, fl5, fl6, fl7, fl8, fl9, fl10, Nat.reduceBEq]) | (refine WC.skip ?_) | (refine WC.block ?_) | (refine WO.em2 rfl (by intro hp; simp only [hp, decide_true]; rfl) (by intro hp; simp only [hp, decide_false]; rfl) (fun hp => ?_) (fun hp => ?_) <;> try (exfalso; first | omega | contradiction)) | (refine WC.em2 rfl (fun hp => ?_) (fun hp => ?_) <;> try (exfalso; first | omega | contradiction)))
    all_goals
      refine ⟨m - 1, by omega, _, _, i + 1, _, q', rfl, rfl, rfl, rfl, rfl, rfl, by rw [hps]; first | (rw [if_pos ‹prodN LS i ≤ 10000›]; rfl) | (rw [if_neg ‹¬ prodN LS i ≤ 10000›]; rfl), ?_, rfl, rfl, rfl, rfl, by omega, ⟨?_, ?_, ?_, ?_⟩, a1.frame (q1 := 3) (fun j hj hj3 => List.getElem?_set_ne (Ne.symm hj3)) (by omega), hq4'⟩
      · simp only [gt8, gt0, gt1, gt2, gt3, gt4, gt5, gt6, gt7, AV.bool.injEq]
        first
          | (symm
             rw [decide_eq_true_iff]
             exact ex_succ.2 (.inl ‹∃ j, j < i ∧ LS.getD j [] = []›))
          | (rw [decide_eq_decide]
             exact ⟨fun h => ex_succ.2 (.inr (List.length_eq_zero_iff.1 (by omega))), fun h => (ex_succ.1 h).elim (fun h => absurd h ‹¬ ∃ j, j < i ∧ LS.getD j [] = []›) (fun h => by rw [h]; rfl)⟩)
      · rw [look_of_get (List.getElem?_set_ne (by decide)), look_of_get (hkk 0 (by omega) (by omega))]; exact k0
      · rw [look_of_get (List.getElem?_set_ne (by decide)), look_of_get (hkk 1 (by omega) (by omega))]; exact k1
      · rw [look_of_get (List.getElem?_set_ne (by decide)), look_of_get (hkk 2 (by omega) (by omega))]; exact k2
      · exact look_set (look_lt j3)
  · have hi' : i = vs.length := by omega
    subst hi'
    have hpi := hpb vs.length
    by_cases hnone : ∃ j, j < vs.length ∧ LS.getD j [] = []
    · rw [if_pos hnone] at hce
      rw [hce]
      simp only [decide_eq_true hnone]
      repeat' (first | (refine WO.opE (by intro; simp (disch := omega) only [go_sem, zeros, List.append_assoc, List.length_append, ov_all6, ov_one0, Nat.reduceAdd, Nat.reduceMul, Nat.reduceSub, Nat.reduceLeDiff, Nat.reduceEqDiff, Int.reduceNeg, Int.reduceAdd, Int.reduceToNat, reduceIte, reduceCtorEq, k1]; rfl) (by simp only [pt8, pt0, pt1, pt2, pt3, pt4, pt5, pt6, pt7]; rfl) ?_) | (refine WC.seq ?_) | (refine WC.region ?_) | (refine WO.nil ?_) | (simp only [fl1, fl2, fl3, fl4, fl5, fl6, fl7, fl8, fl9, fl10, Nat.reduceBEq]) | (refine WC.yes rfl ?_) | (refine WC.exit ?_) | (refine WC.ret ?_) | (refine WC.block ?_) | (refine WC.em2 rfl (fun hp => ?_) (fun hp => ?_) <;> try (exfalso; first | omega | contradiction)))
      exact ⟨_, rfl, _, rfl, fun h => (by cases h), fun _ => rfl⟩
    · rw [if_neg hnone] at hce
      simp only [decide_eq_false hnone]
      by_cases hpr : 10000 < prodN LS vs.length
      · rw [if_pos hpr] at hce
        rw [hce]
        repeat' (first | (refine WO.opE (by intro; simp (disch := omega) only [go_sem, zeros, List.append_assoc, List.length_append, ov_all6, ov_one0, Nat.reduceAdd, Nat.reduceMul, Nat.reduceSub, Nat.reduceLeDiff, Nat.reduceEqDiff, Int.reduceNeg, Int.reduceAdd, Int.reduceToNat, reduceIte, reduceCtorEq, k1]; rfl) (by simp only [pt8, pt0, pt1, pt2, pt3, pt4, pt5, pt6, pt7]; rfl) ?_) | (refine WC.seq ?_) | (refine WC.region ?_) | (refine WO.nil ?_) | (simp only [fl1, fl2, fl3, fl4, fl5, fl6, fl7, fl8, fl9, fl10, Nat.reduceBEq]) | (refine WC.no rfl ?_) | (refine WC.exit ?_) | (refine WC.ret ?_) | (refine WC.block ?_) | (refine WC.em2 rfl (fun hp => ?_) (fun hp => ?_) <;> try (exfalso; first | omega | contradiction)))
        exact ⟨_, rfl, _, rfl, fun h => (by cases h), fun _ => rfl⟩
      · rw [if_neg hpr] at hce
        have hk : ∀ call T' l c, l.ev T' = .int .i64 0 → c.ev T' = .int .i64 (vs.length : Nat) → evOp call T' ⟨H, []⟩ (.makeSlice 1 8 [.int .i64 0] l c) = some (.sref H.length 0 0 1 0 (some vs.length), ⟨H ++ [some ⟨0, zeros [.int .i64 0] vs.length⟩], []⟩) := fun call T' l c h1 h2 => by
          rw [ev_makeSlice, h1, h2]
          show (if _ then _ else _) = _
          rw [if_pos ⟨by omega, by omega, by omega, by omega⟩]
          rfl
        repeat' (first | (refine WO.opE (by intro; simp (disch := omega) only [go_sem, List.append_assoc, List.length_append, ov_all6, ov_one0, Nat.reduceAdd, Nat.reduceMul, Nat.reduceSub, Nat.reduceLeDiff, Nat.reduceEqDiff, Int.reduceNeg, Int.reduceAdd, Int.reduceToNat, reduceIte, reduceCtorEq, k0, k1, k2, k3, look_left, lk0, lk1, lk2, st0, st1, st2, List.map_cons, List.map_nil]; rfl) (by simp only [pt8, pt0, pt1, pt2, pt3, pt4, pt5, pt6, pt7]; rfl) ?_) | (refine WO.opN (by intro; simp (disch := omega) only [go_sem, List.append_assoc, List.length_append, ov_all6, ov_one0, Nat.reduceAdd, Nat.reduceMul, Nat.reduceSub, Nat.reduceLeDiff, Nat.reduceEqDiff, Int.reduceNeg, Int.reduceAdd, Int.reduceToNat, reduceIte, reduceCtorEq, k0, k1, k2, k3, look_left, lk0, lk1, lk2, st0, st1, st2, List.map_cons, List.map_nil]; rfl) ?_) | (refine WO.opE (by intro; exact ev_lenS (by simp only [go_sem]; first | rfl | assumption)) (by simp only [pt8, pt0, pt1, pt2, pt3, pt4, pt5, pt6, pt7]; rfl) ?_) | (refine WO.opE (by intro; exact hk _ _ _ _ rfl rfl) (by simp only [pt8, pt0, pt1, pt2, pt3, pt4, pt5, pt6, pt7]; rfl) ?_) | (refine WC.seq ?_) | (refine WC.region ?_) | (refine WO.nil ?_) | (simp only [fl1, fl2, fl3, fl4, fl5, fl6, fl7, fl8, fl9, fl10, Nat.reduceBEq]) | (refine WC.no rfl ?_) | (refine WC.skip ?_) | (refine WC.exit ?_) | (refine WC.block ?_) | (refine WC.em2 rfl (fun hp => ?_) (fun hp => ?_) <;> try (exfalso; first | omega | contradiction)))
        obtain ⟨ql, gl, hSF⟩ : ∃ ql gl, SF (fun n c => H ++ [some ⟨0, c⟩, some ⟨0, [.sref H.length 0 0 1 n (some vs.length)]⟩, some ⟨0, [.func 52 [] [.pref (H.length + 1) 0 0, .pref 1 0 0, .pref 0 0 0, .pref 2 0 0, .pref 3 0 0, .pref (H.length + 2) 0 0]]⟩]) pv vv sup tol w ((List.range vs.length).map X) vs.length (H.length + 3) (H.length + 1) 1 0 2 3 (H.length + 2) H.length ql gl := by
          by_cases hl0 : vs.length = 0
          · have hnil : (List.range vs.length).map X = [] := by rw [hl0]; rfl
            exact ⟨0, 0, fun n c => by simp, fun n c X => by rw [List.append_assoc]; exact lk1 rfl, fun n c X => by rw [List.append_assoc, look_left (by omega)]; exact k1, fun n c X => by rw [List.append_assoc, look_left (by omega)]; exact k0, fun n c X => by rw [List.append_assoc, look_left (by omega)]; exact k2, fun n c X => .inr hnil, fun n c X => by rw [List.append_assoc]; exact lk2 rfl, fun n c X => by rw [List.append_assoc]; exact lk0 rfl, fun n c X => .inr hnil, fun n n' c X => by rw [List.append_assoc, List.append_assoc]; exact st1 rfl, fun n c c' X => by rw [List.append_assoc, List.append_assoc]; exact st0 rfl⟩
          · obtain ⟨g, n, rfl, d1, d2, d3⟩ := hg.ref (by intro e; rw [List.map_eq_nil_iff, List.range_eq_nil] at e; exact hl0 e)
            have hn : n = ((List.range vs.length).map X).length := by simpa using d1.symm
            subst hn
            exact ⟨q, g, fun n c => by simp, fun n c X => by rw [List.append_assoc]; exact lk1 rfl, fun n c X => by rw [List.append_assoc, look_left (by omega)]; exact k1, fun n c X => by rw [List.append_assoc, look_left (by omega)]; exact k0, fun n c X => by rw [List.append_assoc, look_left (by omega)]; exact k2, fun n c X => by rw [List.append_assoc, look_left (by omega)]; exact .inl k3, fun n c X => by rw [List.append_assoc]; exact lk2 rfl, fun n c X => by rw [List.append_assoc]; exact lk0 rfl, fun n c X => by rw [List.append_assoc, look_left d3]; exact .inl d2, fun n n' c X => by rw [List.append_assoc, List.append_assoc]; exact st1 rfl, fun n c c' X => by rw [List.append_assoc, List.append_assoc]; exact st0 rfl⟩
        have hcz : (zeros [AV.int .i64 0] vs.length).length = vs.length := by rw [zeros_len]; simp
        have hXg : ∀ i, i < vs.length → ((List.range vs.length).map X).getD i und = X i := fun i hi => by simp [List.getD_eq_getElem?_getD, hi]
        have h52 := f52 (LS := LS) hSF hq hmax hvv hvs hv hw rfl (by omega) hLl (by simp) (fun i hi => by rw [hXg i hi]; exact (hX i hi).1) (fun i _ => hLb i) (L := []) LS [] (zeros [.int .i64 0] vs.length) [] rfl (by simpa using hLl) hcz rfl
        rw [List.append_nil] at h52
        refine WO.call rfl rfl (h52.mono ?_)
        intro v' m' hout
        rw [hfc] at hce
        cases hdf : dfs (fun ids => decide (playsP ps sup tol ids vs w)) LS [] with
        | some r =>
          rw [hdf] at hout hce
          obtain ⟨rfl, c', R', hc', rfl, hcp'⟩ := hout
          have hrl := dfs_len hdf
          simp only [List.length_nil, Nat.zero_add] at hrl
          rw [hce]
          simp only [pt8, pt0, pt1, pt2, pt3, pt4, pt5, pt6, pt7, gt8, gt0, gt1, gt2, gt3, gt4, gt5, gt6, gt7]
          repeat' (first | (refine WO.opE (by intro; simp (disch := omega) only [go_sem, List.append_assoc, List.length_append, Nat.reduceAdd, Nat.reduceMul, Nat.reduceSub, Nat.reduceLeDiff, Nat.reduceEqDiff, Int.reduceNeg, Int.reduceAdd, Int.reduceToNat, reduceIte, reduceCtorEq, lk1]; rfl) (by simp only [pt8, pt0, pt1, pt2, pt3, pt4, pt5, pt6, pt7]; rfl) ?_) | (refine WC.seq ?_) | (refine WC.region ?_) | (refine WO.nil ?_) | (simp only [fl1, fl2, fl3, fl4, fl5, fl6, fl7, fl8, fl9, fl10, Nat.reduceBEq]) | (refine WC.no rfl ?_) | (refine WC.skip ?_) | (refine WC.ret ?_))
          have hcut : cut c' 0 (r.length * 1) = some (r.map (AV.int .i64)) := by
            unfold Zz.cut
            rw [if_pos (by omega), List.drop_zero, Nat.mul_one, hcp']
          refine ⟨_, rfl, _, new2 (x := .sval (some vs.length == some r.length) r.length (r.map (.int .i64))) ?_, fun _ => ⟨r, by rw [hfc]; exact hdf, IntS.mk r _⟩, fun h => absurd rfl h⟩
          show newC (H ++ some ⟨0, c'⟩ :: _) (.sref H.length 0 0 1 r.length (some vs.length)) = _
          simp only [Zz.newC, lk0 rfl, hcut, flat_ints, if_true]
        | none =>
          rw [hdf] at hout hce
          obtain ⟨rfl, c', R', hc', rfl, hcp'⟩ := hout
          rw [hce]
          simp only [pt8, pt0, pt1, pt2, pt3, pt4, pt5, pt6, pt7, gt8, gt0, gt1, gt2, gt3, gt4, gt5, gt6, gt7]
          repeat' (first | (refine WO.opE (by intro; simp (disch := omega) only [go_sem, List.append_assoc, List.length_append, Nat.reduceAdd, Nat.reduceMul, Nat.reduceSub, Nat.reduceLeDiff, Nat.reduceEqDiff, Int.reduceNeg, Int.reduceAdd, Int.reduceToNat, reduceIte, reduceCtorEq]; rfl) (by simp only [pt8, pt0, pt1, pt2, pt3, pt4, pt5, pt6, pt7]; rfl) ?_) | (refine WC.seq ?_) | (refine WC.region ?_) | (refine WO.nil ?_) | (simp only [fl1, fl2, fl3, fl4, fl5, fl6, fl7, fl8, fl9, fl10, Nat.reduceBEq]) | (refine WC.yes rfl ?_) | (refine WC.ret ?_))
          exact ⟨_, rfl, _, rfl, fun h => (by cases h), fun _ => rfl⟩
/-- Chord. -/
theorem s21 {pv vv : AV} {ps : List Pipe} {vs : List V6} {sup tol w : Int} (hq : PpL pv ps) (hmax : ps.length < 9223372036854775807) (hvv : VL6 vv vs) (hvmax : vs.length < 9223372036854775807) : ∃ x, (chordE ps sup tol vs w = 0 → ∃ r, findC ps sup tol vs w = some r ∧ IntS x r) ∧ (chordE ps sup tol vs w ≠ 0 → x = .snil) ∧
    ∀ m vv', Zz.byVal m.heap vv' = some vv → borrowX E32 21 [.agg [pv, .int .i64 sup, .int .i64 tol], vv', .int .i64 w] m = some (.tuple [x, .int .i64 (chordE ps sup tol vs w)], m) := by
  by_cases hok : chordOk ps sup tol vs w
  · obtain ⟨k, y, m', h1, x, x1, x2, x3⟩ := (f21 hq hmax hvv hvmax hok).ex
    exact ⟨x, x2, x3, fun m vv' h => borrowX_of (byVals_cons (byO hq) (byVals_cons h (byVals_cons rfl rfl))) ⟨⟨k, y, m', h1, x1⟩⟩⟩
  · have e : chordE ps sup tol vs w = 1 := if_neg hok
    rw [e]
    exact ⟨.snil, fun h => (by cases h), fun _ => rfl, fun m vv' h => borrowX_of (byVals_cons (byO hq) (byVals_cons h (byVals_cons rfl rfl))) ((f21bad hq hmax hvv hvmax hok).mono fun y m' h => by rw [h]; rfl)⟩

noncomputable def E33 : Env := E32.put 21 (borrowX E32 21)
theorem E33_ok : EnvOk Tryd.prog E33 := Env.put_ok E32_ok (borrowX_ok E32_ok (callable Tryd.func21 (by kernel_rfl)))
end Go.Proofs.YtjbdefmhjmkifaaDoor

