import Derived.Test.YtndaljjljmmlcaaL16C

set_option linter.unusedSimpArgs false
set_option linter.unusedVariables false
namespace Go.Proofs.Ytndaljjljmmlcaa
open Go.Zz
set_option maxRecDepth 100000
theorem cut_tab {x : Bf.S} : Zz.cut (tab x) 0 120 = some (tab x) := by
  unfold Zz.cut
  rw [if_pos (by rw [tab_len]; omega), List.drop_zero, List.take_of_length_le (by rw [tab_len]; omega)]
theorem over_tab {x y : Bf.S} : Zz.over (tab x) 0 (tab y) = some (tab y) := by
  unfold Zz.over
  rw [if_pos (by rw [tab_len, tab_len]; omega), tab_len]
  simp [tab_len]
def tblB (x : Bf.S) : Hp := [some ⟨0, tab (kn 0)⟩, some ⟨0, tab x⟩]
theorem tblB_ok : Tbl tblB 1 2 := ⟨fun _ => rfl, by decide, fun _ _ => rfl, fun _ _ _ => rfl⟩

theorem s28 {n : Int} {rs : List Rg} (hv : VL n rs) {l : AV} (hl : RdL l rs) : ((∃ p, Pot rs p) ∧ ∀ m, borrowR E9 28 [.int .i64 n, l] m = some (.snil, m)) ∨
    ∃ ch, Contra rs ch ∧ ∀ H L, borrowR E9 28 [.int .i64 n, l] ⟨H, L⟩ = some (.sref H.length 0 0 1 ch.length none, ⟨H ++ [some ⟨0, ch.map (.int .i64)⟩], L⟩) := by
  obtain ⟨k, y, m', h, hq⟩ := (f28a hv hl).ex
  rcases hq with ⟨rfl, hp⟩ | ⟨ch, id, g, hc, rfl, hn⟩
  · refine .inl ⟨hp, fun m => borrowR_of (byVals_cons rfl (byVals_cons (hl.byVal _) rfl)) ⟨⟨k, _, m', h, [], .snil, rfl, rfl, ?_⟩⟩⟩
    rw [List.append_nil]
  · refine .inr ⟨ch, hc, fun H L => borrowR_of (byVals_cons rfl (byVals_cons (hl.byVal _) rfl)) ⟨⟨k, _, m', h, _, _, one_take hn (flat_ints _), one_ren hn, rfl⟩⟩⟩

noncomputable def E10 : Env := E9.put 28 (borrowR E9 28)
theorem E10_ok : EnvOk Try.prog E10 := Env.put_ok E9_ok (borrowR_ok E9_ok (callable Try.func28 (by kernel_rfl)))

theorem f29 {n : Int} {rs : List Rg} (hv : VL n rs) {l : AV} (hl : RdL l rs) {i : Nat} (hi : (i : Int) < n) {p : Nat → Int} (hp : Pot rs p) : WF E9 (.func 29 [] []) [.int .i64 n, l, .int .i64 i] ⟨[], []⟩ fun y m' =>
    ∃ X : Bf.S, Sol rs i X.known X.far ∧ Bnd 2000000000000000000 X ∧ y = .agg (tab X) := by
  have hn1 := hv.1
  have hn2 := hv.2.1
  have hA := tblB_ok
  refine WF.fnE rfl (fn_of Try.func29 cir29) (by show 3 ≤ 15; decide) ?_
  unfold ir29
  simp only [padTo, List.replicate, List.nil_append, List.append_nil, List.cons_append]
  refine WC.seq (WC.region ?_)
  repeat' (first | (refine WO.yes rfl ?_) | (refine WO.noE rfl (by simp only [pt8, pt0, pt1, pt2, pt3, pt4, pt5, pt6, pt7]; rfl) ?_) | (refine WO.opE (by intro; simp (disch := omega) only [go_sem, Zz.look, Zz.over, Zz.cut, Nat.reduceAdd, Nat.reduceMul, Nat.reduceSub, Nat.reduceLeDiff, Nat.reduceEqDiff, Int.reduceNeg, Int.reduceAdd, Int.reduceToNat, reduceIte, reduceCtorEq]; rfl) (by simp only [pt8, pt0, pt1, pt2, pt3, pt4, pt5, pt6, pt7]; rfl) ?_) | (refine WO.opN (by intro; simp (disch := omega) only [go_sem, Zz.look, Zz.over, Zz.cut, Nat.reduceAdd, Nat.reduceMul, Nat.reduceSub, Nat.reduceLeDiff, Nat.reduceEqDiff, Int.reduceNeg, Int.reduceAdd, Int.reduceToNat, reduceIte, reduceCtorEq]; rfl) ?_) | (refine WO.opE (by intro; exact ev_lenS (by simp only [go_sem]; first | rfl | assumption)) (by simp only [pt8, pt0, pt1, pt2, pt3, pt4, pt5, pt6, pt7]; rfl) ?_) | (refine WO.em2 rfl (by intro hp; simp only [hp, decide_true]; rfl) (by intro hp; simp only [hp, decide_false]; rfl) (fun hp => ?_) (fun hp => ?_) <;> try (exfalso; first | omega | contradiction)) | (refine WC.em2 rfl (fun hp => ?_) (fun hp => ?_) <;> try (exfalso; first | omega | contradiction)))
  refine WO.nil ?_
  refine WC.seq (WC.region ?_)
  simp only [z120]
  repeat' (first | (refine WO.yes rfl ?_) | (refine WO.noE rfl (by simp only [pt8, pt0, pt1, pt2, pt3, pt4, pt5, pt6, pt7]; rfl) ?_) | (refine WO.opE (by intro; simp (disch := omega) only [go_sem, zeros, Zz.cut, List.append_assoc, List.length_append, Nat.reduceAdd, Nat.reduceMul, Nat.reduceSub, Nat.reduceLeDiff, Nat.reduceEqDiff, Int.reduceNeg, Int.reduceAdd, Int.reduceToNat, reduceIte, reduceCtorEq]; rfl) (by simp only [pt8, pt0, pt1, pt2, pt3, pt4, pt5, pt6, pt7]; rfl) ?_) | (refine WO.opN (by intro; simp (disch := omega) only [go_sem, zeros, Zz.cut, List.append_assoc, List.length_append, Nat.reduceAdd, Nat.reduceMul, Nat.reduceSub, Nat.reduceLeDiff, Nat.reduceEqDiff, Int.reduceNeg, Int.reduceAdd, Int.reduceToNat, reduceIte, reduceCtorEq]; rfl) ?_) | (refine WO.opE (by intro; exact ev_lenS (by simp only [go_sem]; first | rfl | assumption)) (by simp only [pt8, pt0, pt1, pt2, pt3, pt4, pt5, pt6, pt7]; rfl) ?_) | (refine WO.em2 rfl (by intro hp; simp only [hp, decide_true]; rfl) (by intro hp; simp only [hp, decide_false]; rfl) (fun hp => ?_) (fun hp => ?_) <;> try (exfalso; first | omega | contradiction)) | (refine WC.em2 rfl (fun hp => ?_) (fun hp => ?_) <;> try (exfalso; first | omega | contradiction)))
  refine WO.nil ?_
  refine WC.seq (WC.region ?_)
  have e0 : ([some ⟨0, tab (kn 0)⟩, some ⟨0, tab (kn 0)⟩] : Hp) = tblB (kn 0) ++ [] := rfl
  rw [e0]
  generalize hAA : tblB = A at *
  repeat' (first | (refine WO.yes rfl ?_) | (refine WO.noE rfl (by simp only [pt8, pt0, pt1, pt2, pt3, pt4, pt5, pt6, pt7]; rfl) ?_) | (refine WO.opE (by intro; simp (disch := first | omega | (simp only [hA.len])) only [go_sem, zeros, Zz.cut, List.append_assoc, List.length_append, Nat.reduceAdd, Nat.reduceMul, Nat.reduceSub, Nat.reduceLeDiff, Nat.reduceEqDiff, Int.reduceNeg, Int.reduceAdd, Int.reduceToNat, reduceIte, reduceCtorEq, hA.len, hA.look, hA.set, tab_k, tab_f, tab_b, over_k, over_f, over_b, Nat.mul_one, z120, tab_len, cut_tab, over_tab]; rfl) (by simp only [pt8, pt0, pt1, pt2, pt3, pt4, pt5, pt6, pt7]; rfl) ?_) | (refine WO.opN (by intro; simp (disch := first | omega | (simp only [hA.len])) only [go_sem, zeros, Zz.cut, List.append_assoc, List.length_append, Nat.reduceAdd, Nat.reduceMul, Nat.reduceSub, Nat.reduceLeDiff, Nat.reduceEqDiff, Int.reduceNeg, Int.reduceAdd, Int.reduceToNat, reduceIte, reduceCtorEq, hA.len, hA.look, hA.set, tab_k, tab_f, tab_b, over_k, over_f, over_b, Nat.mul_one, z120, tab_len, cut_tab, over_tab]; rfl) ?_) | (refine WO.opE (by intro; exact ev_lenS (by simp only [go_sem]; first | rfl | assumption)) (by simp only [pt8, pt0, pt1, pt2, pt3, pt4, pt5, pt6, pt7]; rfl) ?_) | (refine WC.seq ?_) | (refine WC.region ?_) | (refine WO.nil ?_) | (simp only [fl1, fl2, fl3, fl4, fl5, fl6, fl7, fl8, fl9, fl10, Nat.reduceBEq]) | (refine WC.calm rfl ?_) | (refine WC.drawT ?_) | (refine WC.yes rfl ?_) | (refine WC.no rfl ?_) | (refine WC.skip ?_) | (refine WC.exit ?_) | (refine WC.ret ?_) | (refine WC.block ?_) | (refine WO.em2 rfl (by intro hp; simp only [hp, decide_true]; rfl) (by intro hp; simp only [hp, decide_false]; rfl) (fun hp => ?_) (fun hp => ?_) <;> try (exfalso; first | omega | contradiction)) | (refine WC.em2 rfl (fun hp => ?_) (fun hp => ?_) <;> try (exfalso; first | omega | contradiction)))
  rw [List.append_nil]
  refine WO.call rfl rfl ((f36 hA hv hl (x := one i) (one_bnd _) (L := [])).mono ?_)
  rintro v m' ⟨r, R, L', hr, rfl, rfl, hcase⟩
  have hlt : (rd rs (one i) (r + 1)).2 < 0 := by
    rcases hcase with h | h
    · exact h
    · exact no_late hv (one i) (by omega) hp
  have hsol := sol_from hv hp hlt
  have hbx : Bnd 2000000000000000000 (rd rs (one i) (r + 1)).1 := fun v => by have := Bnd.rd hv (one_bnd i) (r + 1) v; omega
  generalize hX : (rd rs (one i) (r + 1)).1 = X at *
  have hA0 : ∀ x l, A x ++ l = some ⟨0, tab (kn 0)⟩ :: some ⟨0, tab x⟩ :: l := fun x l => by rw [← hAA]; rfl
  rw [hA0]
  simp only [pt8, pt0, pt1, pt2, pt3, pt4, pt5, pt6, pt7]
  repeat' (first | (refine WO.yes rfl ?_) | (refine WO.noE rfl (by simp only [pt8, pt0, pt1, pt2, pt3, pt4, pt5, pt6, pt7]; rfl) ?_) | (refine WO.opE (by intro; simp (disch := omega) only [go_sem, Zz.look, zeros, List.append_assoc, List.length_append, Nat.reduceAdd, Nat.reduceMul, Nat.reduceSub, Nat.reduceLeDiff, Nat.reduceEqDiff, Int.reduceNeg, Int.reduceAdd, Int.reduceToNat, reduceIte, reduceCtorEq, hA.len, hA.look, hA.set, tab_k, tab_f, tab_b, over_k, over_f, over_b, Nat.mul_one, z120, tab_len, cut_tab, over_tab, List.length_append]; rfl) (by simp only [pt8, pt0, pt1, pt2, pt3, pt4, pt5, pt6, pt7]; rfl) ?_) | (refine WO.opN (by intro; simp (disch := omega) only [go_sem, Zz.look, zeros, List.append_assoc, List.length_append, Nat.reduceAdd, Nat.reduceMul, Nat.reduceSub, Nat.reduceLeDiff, Nat.reduceEqDiff, Int.reduceNeg, Int.reduceAdd, Int.reduceToNat, reduceIte, reduceCtorEq, hA.len, hA.look, hA.set, tab_k, tab_f, tab_b, over_k, over_f, over_b, Nat.mul_one, z120, tab_len, cut_tab, over_tab, List.length_append]; rfl) ?_) | (refine WO.opE (by intro; exact ev_lenS (by simp only [go_sem]; first | rfl | assumption)) (by simp only [pt8, pt0, pt1, pt2, pt3, pt4, pt5, pt6, pt7]; rfl) ?_) | (refine WC.seq ?_) | (refine WC.region ?_) | (refine WO.nil ?_) | (simp only [fl1, fl2, fl3, fl4, fl5, fl6, fl7, fl8, fl9, fl10, Nat.reduceBEq]) | (refine WC.calm rfl ?_) | (refine WC.drawT ?_) | (refine WC.yes rfl ?_) | (refine WC.no rfl ?_) | (refine WC.skip ?_) | (refine WC.exit ?_) | (refine WC.ret ?_) | (refine WC.block ?_) | (refine WO.em2 rfl (by intro hp; simp only [hp, decide_true]; rfl) (by intro hp; simp only [hp, decide_false]; rfl) (fun hp => ?_) (fun hp => ?_) <;> try (exfalso; first | omega | contradiction)) | (refine WC.em2 rfl (fun hp => ?_) (fun hp => ?_) <;> try (exfalso; first | omega | contradiction)))
  refine ⟨[.agg (tab X)], ?_, X, hsol, hbx, rfl⟩
  simp only [evRes, gt8, gt0, gt6, Zz.look, List.getElem?_cons_zero, if_true, Option.bind_some, loadCs, cut_tab, Option.map_some]
end Go.Proofs.Ytndaljjljmmlcaa


set_option linter.unusedSimpArgs false
set_option linter.unusedVariables false
namespace Go.Proofs.Ytndaljjljmmlcaa
open Go.Zz

theorem newL_flat {H : Hp} : ∀ {l : List AV}, l.all flatAV = true → newL H l = some l
  | [], _ => rfl
  | x :: l, h => by
    simp only [List.all_cons, Bool.and_eq_true] at h
    have hx : newC H x = some x := by
      have := h.1
      cases x <;> first | rfl | (simp [flatAV] at this; done)
    simp only [newL, hx, newL_flat h.2]
theorem tab_flat (x : Bf.S) : (tab x).all flatAV = true := by
  simp [tab, cellsB, cellsI, flatAV]
theorem s29 {n : Int} {rs : List Rg} (hv : VL n rs) {l : AV} (hl : RdL l rs) {i : Nat} (hi : (i : Int) < n) {p : Nat → Int} (hp : Pot rs p) : ∃ X : Bf.S, Sol rs i X.known X.far ∧ Bnd 2000000000000000000 X ∧ ∀ m, borrowX E9 29 [.int .i64 n, l, .int .i64 i] m = some (.agg (tab X), m) := by
  obtain ⟨k, y, m', h, X, hs, hb, rfl⟩ := (f29 hv hl hi hp).ex
  refine ⟨X, hs, hb, fun m => borrowX_of (byVals_cons rfl (byVals_cons (hl.byVal _) (byVals_cons rfl rfl))) ⟨⟨k, _, m', h, ?_⟩⟩⟩
  simp only [newV, newA, newL_flat (tab_flat X)]

/-- The step the other way. -/
theorem eOf_rev {rs : List Rg} {s : Int} (h : Num rs s) : Num rs (0 - s) ∧ (eOf rs (0 - s)).a = (eOf rs s).b ∧ (eOf rs (0 - s)).b = (eOf rs s).a := by
  have h1 := h.neg
  refine ⟨h1, ?_, ?_⟩
  · simp only [eOf, stA_neg h.1]
  · have := stA_neg (rs := rs) h1.1
    rw [show 0 - (0 - s) = s by omega] at this
    simp only [eOf, this]

theorem Sol.trans {rs : List Rg} {f i v : Nat} {K K' : Nat → Bool} {d d' : Nat → Int} (h : Sol rs f K d) (hi : K i = true) (h' : Sol rs i K' d') (hv : K' v = true) : K v = true ∧ d v ≤ d i + d' v := by
  have := h'.best (fun u => K u = true) d hi (fun s hs ha => h.closed s hs ha) v hv
  exact ⟨this.1, by omega⟩
theorem Sol.symm {rs : List Rg} {i v : Nat} {K K' : Nat → Bool} {d d' : Nat → Int} (h : Sol rs i K d) (hv : K v = true) (h' : Sol rs v K' d') : K' i = true := by
  refine Decidable.of_not_not fun hn => ?_
  have := (h.best (fun u => K u = true ∧ ¬ K' u = true) d ⟨h.self, hn⟩ (fun s hs ha => ⟨⟨(h.closed s hs ha.1).1, fun hb => ha.2 ?_⟩, (h.closed s hs ha.1).2⟩) v hv).1.2
  · exact this h'.self
  · obtain ⟨e1, e2, e3⟩ := eOf_rev hs
    have := (h'.closed _ e1 (by rw [e2]; exact hb)).1
    rwa [e3] at this

/-- v's size, counted from the first item that it is connected with. -/
def Firstly (rs : List Rg) (v f : Nat) (y : Int) : Prop := ∃ K d, Sol rs f K d ∧ K v = true ∧ y = d v ∧ ∀ u K' d', u < f → Sol rs u K' d' → K' v = false
theorem Firstly.unique {rs : List Rg} {v f f' : Nat} {y y' : Int} (h : Firstly rs v f y) (h' : Firstly rs v f' y') : f = f' ∧ y = y' := by
  obtain ⟨K, d, h1, h2, rfl, h4⟩ := h
  obtain ⟨K', d', h1', h2', rfl, h4'⟩ := h'
  have e : f = f' := by
    rcases Nat.lt_trichotomy f f' with h | h | h
    · have := h4' f K d h h1; rw [h2] at this; cases this
    · exact h
    · have := h4 f' K' d' h h1'; rw [h2'] at this; cases this
  subst e
  exact ⟨rfl, (h1.eq h1' v).2 h2⟩
/-- Sizes as Solve has them. -/
def Sized (rs : List Rg) (n : Nat) (ys : List Int) : Prop := ys.length = n ∧ ∀ v, v < n → ∃ f, Firstly rs v f (ys.getD v 0)
theorem Sized.unique {rs : List Rg} {n : Nat} {ys ys' : List Int} (h : Sized rs n ys) (h' : Sized rs n ys') : ys = ys' := by
  apply List.ext_getElem (by rw [h.1, h'.1])
  intro v h1 h2
  have hv : v < n := by have := h.1; omega
  obtain ⟨f, a⟩ := h.2 v hv
  obtain ⟨f', b⟩ := h'.2 v hv
  have := (a.unique b).2
  simpa [List.getD_eq_getElem?_getD, h1, h2] using this

/-- While sizes are found: what is done, what is not. -/
def Doing (rs : List Rg) (n i : Nat) (sz : List Int) (dn : List Bool) : Prop := sz.length = n ∧ dn.length = n ∧ ∀ v, v < n →
  (dn.getD v false = true → ∃ f, f < i ∧ Firstly rs v f (sz.getD v 0)) ∧ (dn.getD v false = false → sz.getD v 0 = 0 ∧ ∀ u K d, u < i → Sol rs u K d → K v = false)

theorem Doing.start (rs : List Rg) (n : Nat) : Doing rs n 0 (List.replicate n 0) (List.replicate n false) := by
  refine ⟨by simp, by simp, fun v hv => ⟨fun h => ?_, fun _ => ⟨by simp [List.getD_eq_getElem?_getD, hv], fun u K d hu => by omega⟩⟩⟩
  simp [List.getD_eq_getElem?_getD, hv] at h

/-- What was done already. -/
theorem Doing.skip {rs : List Rg} {n i : Nat} {sz : List Int} {dn : List Bool} (h : Doing rs n i sz dn) (hi : i < n) (hd : dn.getD i false = true) : Doing rs n (i + 1) sz dn := by
  obtain ⟨h1, h2, h3⟩ := h
  refine ⟨h1, h2, fun v hv => ⟨fun h => ?_, fun h => ?_⟩⟩
  · obtain ⟨f, hf, hF⟩ := (h3 v hv).1 h
    exact ⟨f, by omega, hF⟩
  · obtain ⟨a, b⟩ := (h3 v hv).2 h
    refine ⟨a, fun u K d hu hs => ?_⟩
    by_cases e : u = i
    · subst e
      obtain ⟨f, hf, K', d', c1, c2, _, c4⟩ := (h3 u hi).1 hd
      cases hk : K v with
      | false => rfl
      | true =>
        have := (c1.trans c2 hs hk).1
        rw [b f K' d' hf c1] at this
        cases this
    · exact b u K d (by omega) hs

/-- Halfway through the items of i. -/
def Half (X : Bf.S) (k : Nat) (sz : List Int) (dn : List Bool) (sz' : List Int) (dn' : List Bool) : Prop := sz'.length = sz.length ∧ dn'.length = dn.length ∧ ∀ v, v < sz.length →
  sz'.getD v 0 = (if v < k ∧ X.known v = true then X.far v else sz.getD v 0) ∧ dn'.getD v false = (if v < k ∧ X.known v = true then true else dn.getD v false)

theorem getD_set {α : Type} {l : List α} {a b : Nat} {v x : α} (h : a < l.length) : (l.set a v).getD b x = if b = a then v else l.getD b x := by
  simp only [List.getD_eq_getElem?_getD]
  by_cases e : b = a
  · subst e; simp [h]
  · rw [if_neg e, List.getElem?_set_ne (Ne.symm e)]

theorem Half.yes {X : Bf.S} {k : Nat} {sz sz' : List Int} {dn dn' : List Bool} (h : Half X k sz dn sz' dn') (hl : dn.length = sz.length) (hk : k < sz.length) (hx : X.known k = true) : Half X (k + 1) sz dn (sz'.set k (X.far k)) (dn'.set k true) := by
  obtain ⟨h1, h2, h3⟩ := h
  refine ⟨by simp [h1], by simp [h2], fun v hv => ?_⟩
  obtain ⟨a, b⟩ := h3 v hv
  rw [getD_set (by omega), getD_set (by omega), a, b]
  by_cases e : v = k
  · subst e; simp [hx]
  · rw [if_neg e, if_neg e]
    have : (v < k + 1 ∧ X.known v = true) ↔ (v < k ∧ X.known v = true) := by constructor <;> (rintro ⟨p, q⟩; exact ⟨by omega, q⟩)
    simp only [this, and_self]
theorem Half.no {X : Bf.S} {k : Nat} {sz sz' : List Int} {dn dn' : List Bool} (h : Half X k sz dn sz' dn') (hx : ¬ X.known k = true) : Half X (k + 1) sz dn sz' dn' := by
  obtain ⟨h1, h2, h3⟩ := h
  refine ⟨h1, h2, fun v hv => ?_⟩
  obtain ⟨a, b⟩ := h3 v hv
  have : (v < k + 1 ∧ X.known v = true) ↔ (v < k ∧ X.known v = true) := by
    constructor
    · rintro ⟨p, q⟩
      refine ⟨?_, q⟩
      have : v ≠ k := fun e => hx (e ▸ q)
      omega
    · rintro ⟨p, q⟩; exact ⟨by omega, q⟩
  rw [a, b]
  simp only [this, and_self]
theorem Half.start {X : Bf.S} {sz : List Int} {dn : List Bool} : Half X 0 sz dn sz dn := ⟨rfl, rfl, fun v hv => by simp⟩

theorem Doing.next {rs : List Rg} {n i : Nat} {sz sz' : List Int} {dn dn' : List Bool} (h : Doing rs n i sz dn) (hi : i < n) (hd : ¬ dn.getD i false = true) {X : Bf.S} (hs : Sol rs i X.known X.far) (hh : Half X n sz dn sz' dn') : Doing rs n (i + 1) sz' dn' := by
  obtain ⟨h1, h2, h3⟩ := h
  obtain ⟨g1, g2, g3⟩ := hh
  have hd' : dn.getD i false = false := by simpa using hd
  have hnew : ∀ v, v < n → X.known v = true → ∀ u K d, u < i → Sol rs u K d → K v = false := fun v hv hx u K d hu hK => by
    cases hk : K v with
    | false => rfl
    | true =>
      -- i would be connected with u
      exfalso
      have hki := ((h3 i hi).2 hd').2 u K d hu hK
      have : K i = true := by
        refine Decidable.of_not_not fun hn => ?_
        have := (hs.best (fun w => X.known w = true ∧ ¬ K w = true) X.far ⟨hs.self, hn⟩ (fun s hs' ha => ⟨⟨(hs.closed s hs' ha.1).1, fun hb => ha.2 ?_⟩, (hs.closed s hs' ha.1).2⟩) v hx).1.2
        · exact this hk
        · obtain ⟨e1, e2, e3⟩ := eOf_rev hs'
          have := (hK.closed _ e1 (by rw [e2]; exact hb)).1
          rwa [e3] at this
      rw [hki] at this
      cases this
  refine ⟨by omega, by omega, fun v hv => ?_⟩
  obtain ⟨a, b⟩ := g3 v (by omega)
  rw [a, b]
  by_cases hx : X.known v = true
  · rw [if_pos ⟨hv, hx⟩, if_pos ⟨hv, hx⟩]
    refine ⟨fun _ => ⟨i, by omega, X.known, X.far, hs, hx, rfl, fun u K d hu hK => hnew v hv hx u K d hu hK⟩, fun h => by cases h⟩
  · rw [if_neg (fun h => hx h.2), if_neg (fun h => hx h.2)]
    refine ⟨fun h => ?_, fun h => ?_⟩
    · obtain ⟨f, hf, hF⟩ := (h3 v hv).1 h
      exact ⟨f, by omega, hF⟩
    · obtain ⟨a, b⟩ := (h3 v hv).2 h
      refine ⟨a, fun u K d hu hK => ?_⟩
      by_cases e : u = i
      · subst e
        rw [← (hs.eq hK v).1]
        simpa using hx
      · exact b u K d (by omega) hK

/-- All done: each item is connected with itself. -/
theorem Doing.done {n : Int} {rs : List Rg} (hv : VL n rs) {p : Nat → Int} (hsol : ∀ i : Nat, (i : Int) < n → ∃ X : Bf.S, Sol rs i X.known X.far) {sz : List Int} {dn : List Bool} (h : Doing rs n.toNat n.toNat sz dn) : Sized rs n.toNat sz := by
  obtain ⟨h1, h2, h3⟩ := h
  refine ⟨h1, fun v hvn => ?_⟩
  cases hd : dn.getD v false with
  | true =>
    obtain ⟨f, _, hF⟩ := (h3 v hvn).1 hd
    exact ⟨f, hF⟩
  | false =>
    obtain ⟨X, hX⟩ := hsol v (by omega)
    have := ((h3 v hvn).2 hd).2 v X.known X.far hvn hX
    rw [hX.self] at this
    cases this
end Go.Proofs.Ytndaljjljmmlcaa


set_option linter.unusedSimpArgs false
set_option linter.unusedVariables false
namespace Go.Proofs.Ytndaljjljmmlcaa
open Go.Zz
set_option maxRecDepth 100000
/-- A part of the memory with ints and bools in it. -/
structure Two (A : List Int → List Bool → Hp) (q1 q2 N : Nat) : Prop where
  len : ∀ s d, (A s d).length = N
  l1 : ∀ s d l, Zz.look (A s d ++ l) q1 0 = some (s.map (.int .i64))
  l2 : ∀ s d l, Zz.look (A s d ++ l) q2 0 = some (d.map .bool)
  s1 : ∀ s d s' l, (A s d ++ l).set q1 (some ⟨0, s'.map (.int .i64)⟩) = A s' d ++ l
  s2 : ∀ s d d' l, (A s d ++ l).set q2 (some ⟨0, d'.map .bool⟩) = A s d' ++ l
def twoA (s : List Int) (d : List Bool) : Hp := [some ⟨0, s.map (.int .i64)⟩, some ⟨0, d.map .bool⟩]
theorem twoA_ok : Two twoA 0 1 2 := ⟨fun _ _ => rfl, fun _ _ _ => rfl, fun _ _ _ => rfl, fun _ _ _ _ => rfl, fun _ _ _ _ => rfl⟩
theorem zeros_int (k : Nat) : zeros [.int .i64 0] k = (List.replicate k (0 : Int)).map (.int .i64) := by
  induction k with
  | zero => rfl
  | succ k ih => simp only [zeros, ih, List.replicate_succ, List.map_cons, List.cons_append, List.nil_append]
theorem zeros_bool (k : Nat) : zeros [.bool false] k = (List.replicate k false).map .bool := by
  induction k with
  | zero => rfl
  | succ k ih => simp only [zeros, ih, List.replicate_succ, List.map_cons, List.cons_append, List.nil_append]

noncomputable def E11 : Env := E10.put 29 (borrowX E9 29)
theorem E11_ok : EnvOk Try.prog E11 := Env.put_ok E10_ok (borrowX_ok E9_ok (callable Try.func29 (by kernel_rfl)))

/-- Solve, of readings that are not valid. -/
theorem f14bad {n : Int} {rs : List Rg} (hv : ¬ VL n rs) {l : AV} (hl : RdL l rs) (hmax : rs.length < 9223372036854775808) : WF E11 (.func 14 [] []) [.int .i64 n, l] ⟨[], []⟩ fun y m' => y = .tuple [.snil, .snil, .int .i64 1] := by
  refine WF.fnE rfl (fn_of Try.func14 cir14) (by show 2 ≤ 60; decide) ?_
  unfold ir14
  simp only [padTo, List.replicate, List.nil_append, List.append_nil, List.cons_append]
  repeat' (first | (refine WO.yes rfl ?_) | (refine WO.noE rfl (by simp only [pt8, pt0, pt1, pt2, pt3, pt4, pt5, pt6, pt7]; rfl) ?_) | (refine WO.opE (by intro; simp (disch := omega) only [go_sem, Zz.look, Zz.over, Zz.cut, Nat.reduceAdd, Nat.reduceMul, Nat.reduceSub, Nat.reduceLeDiff, Nat.reduceEqDiff, Int.reduceNeg, Int.reduceAdd, Int.reduceToNat, reduceIte, reduceCtorEq, tab_k, tab_f, tab_b, Nat.mul_one, tab_len, over_tab, cut_tab, ia_sref, int_at, int_over, bool_at, bool_over, nilEqAV]; rfl) (by simp only [pt8, pt0, pt1, pt2, pt3, pt4, pt5, pt6, pt7]; rfl) ?_) | (refine WO.opN (by intro; simp (disch := omega) only [go_sem, Zz.look, Zz.over, Zz.cut, Nat.reduceAdd, Nat.reduceMul, Nat.reduceSub, Nat.reduceLeDiff, Nat.reduceEqDiff, Int.reduceNeg, Int.reduceAdd, Int.reduceToNat, reduceIte, reduceCtorEq, tab_k, tab_f, tab_b, Nat.mul_one, tab_len, over_tab, cut_tab, ia_sref, int_at, int_over, bool_at, bool_over, nilEqAV]; rfl) ?_) | (refine WO.opE (by intro; exact ev_lenS (by simp only [go_sem]; first | rfl | assumption)) (by simp only [pt8, pt0, pt1, pt2, pt3, pt4, pt5, pt6, pt7]; rfl) ?_) | (refine WO.specE rfl rfl (s12 hl hmax) (by simp only [pt8, pt0, pt1, pt2, pt3, pt4, pt5, pt6, pt7]; rfl) ?_) | (refine WC.seq ?_) | (refine WC.region ?_) | (refine WO.nil ?_) | (simp only [fl1, fl2, fl3, fl4, fl5, fl6, fl7, fl8, fl9, fl10, Nat.reduceBEq]) | (refine WC.calm rfl ?_) | (refine WC.drawT ?_) | (refine WT.nil ?_) | (refine WT.yes rfl ?_) | (refine WT.no rfl (by simp only [pt8, pt0, pt1, pt2, pt3, pt4, pt5, pt6, pt7]; rfl) ?_) | (refine WT.free rfl (by intro; simp (disch := omega) only [go_sem, Zz.look, Zz.over, Zz.cut, Nat.reduceAdd, Nat.reduceMul, Nat.reduceSub, Nat.reduceLeDiff, Nat.reduceEqDiff, Int.reduceNeg, Int.reduceAdd, Int.reduceToNat, reduceIte, reduceCtorEq, tab_k, tab_f, tab_b, Nat.mul_one, tab_len, over_tab, cut_tab, ia_sref, int_at, int_over, bool_at, bool_over, nilEqAV]; rfl) rfl (by simp only [pt8, pt0, pt1, pt2, pt3, pt4, pt5, pt6, pt7]; rfl) ?_) | (refine WT.big rfl rfl (by intro; simp (disch := omega) only [go_sem, Zz.look, Zz.over, Zz.cut, Nat.reduceAdd, Nat.reduceMul, Nat.reduceSub, Nat.reduceLeDiff, Nat.reduceEqDiff, Int.reduceNeg, Int.reduceAdd, Int.reduceToNat, reduceIte, reduceCtorEq, tab_k, tab_f, tab_b, Nat.mul_one, tab_len, over_tab, cut_tab, ia_sref, int_at, int_over, bool_at, bool_over, nilEqAV]; rfl) (by simp (disch := omega) only [go_sem, Zz.look, Zz.over, Zz.cut, Nat.reduceAdd, Nat.reduceMul, Nat.reduceSub, Nat.reduceLeDiff, Nat.reduceEqDiff, Int.reduceNeg, Int.reduceAdd, Int.reduceToNat, reduceIte, reduceCtorEq, tab_k, tab_f, tab_b, Nat.mul_one, tab_len, over_tab, cut_tab, ia_sref, int_at, int_over, bool_at, bool_over, nilEqAV, touch]; rfl) (by first | exact .inl rfl | exact .inr (apart_nil _) | (right; apply apart_mk; simp only [apartL, List.nil_append, List.cons_append, List.getElem?_cons_succ, List.getElem?_cons_zero, Tch.free, and_true, true_and]; first | done | omega)) (by simp only [pt8, pt0, pt1, pt2, pt3, pt4, pt5, pt6, pt7]; rfl) ?_) | (refine WT.bigN rfl rfl (by intro; simp (disch := omega) only [go_sem, Zz.look, Zz.over, Zz.cut, Nat.reduceAdd, Nat.reduceMul, Nat.reduceSub, Nat.reduceLeDiff, Nat.reduceEqDiff, Int.reduceNeg, Int.reduceAdd, Int.reduceToNat, reduceIte, reduceCtorEq, tab_k, tab_f, tab_b, Nat.mul_one, tab_len, over_tab, cut_tab, ia_sref, int_at, int_over, bool_at, bool_over, nilEqAV]; rfl) (by simp (disch := omega) only [go_sem, Zz.look, Zz.over, Zz.cut, Nat.reduceAdd, Nat.reduceMul, Nat.reduceSub, Nat.reduceLeDiff, Nat.reduceEqDiff, Int.reduceNeg, Int.reduceAdd, Int.reduceToNat, reduceIte, reduceCtorEq, tab_k, tab_f, tab_b, Nat.mul_one, tab_len, over_tab, cut_tab, ia_sref, int_at, int_over, bool_at, bool_over, nilEqAV, touch]; rfl) (by first | exact .inl rfl | exact .inr (apart_nil _) | (right; apply apart_mk; simp only [apartL, List.nil_append, List.cons_append, List.getElem?_cons_succ, List.getElem?_cons_zero, Tch.free, and_true, true_and]; first | done | omega)) ?_) | (refine WC.yes rfl ?_) | (refine WC.no rfl ?_) | (refine WC.skip ?_) | (refine WC.exit ?_) | (refine WC.ret ?_) | (refine WC.block ?_) | (refine WT.em2 rfl (by intro hp; simp only [hp, decide_true]; rfl) (by intro hp; simp only [hp, decide_false]; rfl) (fun hp => ?_) (fun hp => ?_) <;> try (exfalso; first | omega | contradiction)) | (refine WO.em2 rfl (by intro hp; simp only [hp, decide_true]; rfl) (by intro hp; simp only [hp, decide_false]; rfl) (fun hp => ?_) (fun hp => ?_) <;> try (exfalso; first | omega | contradiction)) | (refine WC.em2 rfl (fun hp => ?_) (fun hp => ?_) <;> try (exfalso; first | omega | contradiction)))
  · exact ⟨_, rfl, rfl⟩

/-- Solve, of readings that contradict one another. -/
theorem f14lie {n : Int} {rs : List Rg} (hv : VL n rs) {l : AV} (hl : RdL l rs) {ch : List Int} (hc : Contra rs ch) (h28 : ∀ H L, borrowR E9 28 [.int .i64 n, l] ⟨H, L⟩ = some (.sref H.length 0 0 1 ch.length none, ⟨H ++ [some ⟨0, ch.map (.int .i64)⟩], L⟩)) : WF E11 (.func 14 [] []) [.int .i64 n, l] ⟨[], []⟩ fun y m' => newV m'.heap y = some (.tuple [.snil, .sval false ch.length (ch.map (.int .i64)), .int .i64 23]) := by
  have hmax : rs.length < 9223372036854775808 := by have := hv.2.2.1; omega
  refine WF.fnE rfl (fn_of Try.func14 cir14) (by show 2 ≤ 60; decide) ?_
  unfold ir14
  simp only [padTo, List.replicate, List.nil_append, List.append_nil, List.cons_append]
  repeat' (first | (refine WO.yes rfl ?_) | (refine WO.noE rfl (by simp only [pt8, pt0, pt1, pt2, pt3, pt4, pt5, pt6, pt7]; rfl) ?_) | (refine WO.opE (by intro; simp (disch := omega) only [go_sem, Zz.look, Zz.over, Zz.cut, Nat.reduceAdd, Nat.reduceMul, Nat.reduceSub, Nat.reduceLeDiff, Nat.reduceEqDiff, Int.reduceNeg, Int.reduceAdd, Int.reduceToNat, reduceIte, reduceCtorEq, tab_k, tab_f, tab_b, Nat.mul_one, tab_len, over_tab, cut_tab, ia_sref, int_at, int_over, bool_at, bool_over, nilEqAV]; rfl) (by simp only [pt8, pt0, pt1, pt2, pt3, pt4, pt5, pt6, pt7]; rfl) ?_) | (refine WO.opN (by intro; simp (disch := omega) only [go_sem, Zz.look, Zz.over, Zz.cut, Nat.reduceAdd, Nat.reduceMul, Nat.reduceSub, Nat.reduceLeDiff, Nat.reduceEqDiff, Int.reduceNeg, Int.reduceAdd, Int.reduceToNat, reduceIte, reduceCtorEq, tab_k, tab_f, tab_b, Nat.mul_one, tab_len, over_tab, cut_tab, ia_sref, int_at, int_over, bool_at, bool_over, nilEqAV]; rfl) ?_) | (refine WO.opE (by intro; exact ev_lenS (by simp only [go_sem]; first | rfl | assumption)) (by simp only [pt8, pt0, pt1, pt2, pt3, pt4, pt5, pt6, pt7]; rfl) ?_) | (refine WO.specE rfl rfl (s12 hl hmax) (by simp only [pt8, pt0, pt1, pt2, pt3, pt4, pt5, pt6, pt7]; rfl) ?_) | (refine WO.specE rfl rfl (h28 _ _) (by simp only [pt8, pt0, pt1, pt2, pt3, pt4, pt5, pt6, pt7]; rfl) ?_) | (refine WC.seq ?_) | (refine WC.region ?_) | (refine WO.nil ?_) | (simp only [fl1, fl2, fl3, fl4, fl5, fl6, fl7, fl8, fl9, fl10, Nat.reduceBEq]) | (refine WC.calm rfl ?_) | (refine WC.drawT ?_) | (refine WT.nil ?_) | (refine WT.yes rfl ?_) | (refine WT.no rfl (by simp only [pt8, pt0, pt1, pt2, pt3, pt4, pt5, pt6, pt7]; rfl) ?_) | (refine WT.free rfl (by intro; simp (disch := omega) only [go_sem, Zz.look, Zz.over, Zz.cut, Nat.reduceAdd, Nat.reduceMul, Nat.reduceSub, Nat.reduceLeDiff, Nat.reduceEqDiff, Int.reduceNeg, Int.reduceAdd, Int.reduceToNat, reduceIte, reduceCtorEq, tab_k, tab_f, tab_b, Nat.mul_one, tab_len, over_tab, cut_tab, ia_sref, int_at, int_over, bool_at, bool_over, nilEqAV]; rfl) rfl (by simp only [pt8, pt0, pt1, pt2, pt3, pt4, pt5, pt6, pt7]; rfl) ?_) | (refine WT.big rfl rfl (by intro; simp (disch := omega) only [go_sem, Zz.look, Zz.over, Zz.cut, Nat.reduceAdd, Nat.reduceMul, Nat.reduceSub, Nat.reduceLeDiff, Nat.reduceEqDiff, Int.reduceNeg, Int.reduceAdd, Int.reduceToNat, reduceIte, reduceCtorEq, tab_k, tab_f, tab_b, Nat.mul_one, tab_len, over_tab, cut_tab, ia_sref, int_at, int_over, bool_at, bool_over, nilEqAV]; rfl) (by simp (disch := omega) only [go_sem, Zz.look, Zz.over, Zz.cut, Nat.reduceAdd, Nat.reduceMul, Nat.reduceSub, Nat.reduceLeDiff, Nat.reduceEqDiff, Int.reduceNeg, Int.reduceAdd, Int.reduceToNat, reduceIte, reduceCtorEq, tab_k, tab_f, tab_b, Nat.mul_one, tab_len, over_tab, cut_tab, ia_sref, int_at, int_over, bool_at, bool_over, nilEqAV, touch]; rfl) (by first | exact .inl rfl | exact .inr (apart_nil _) | (right; apply apart_mk; simp only [apartL, List.nil_append, List.cons_append, List.getElem?_cons_succ, List.getElem?_cons_zero, Tch.free, and_true, true_and]; first | done | omega)) (by simp only [pt8, pt0, pt1, pt2, pt3, pt4, pt5, pt6, pt7]; rfl) ?_) | (refine WT.bigN rfl rfl (by intro; simp (disch := omega) only [go_sem, Zz.look, Zz.over, Zz.cut, Nat.reduceAdd, Nat.reduceMul, Nat.reduceSub, Nat.reduceLeDiff, Nat.reduceEqDiff, Int.reduceNeg, Int.reduceAdd, Int.reduceToNat, reduceIte, reduceCtorEq, tab_k, tab_f, tab_b, Nat.mul_one, tab_len, over_tab, cut_tab, ia_sref, int_at, int_over, bool_at, bool_over, nilEqAV]; rfl) (by simp (disch := omega) only [go_sem, Zz.look, Zz.over, Zz.cut, Nat.reduceAdd, Nat.reduceMul, Nat.reduceSub, Nat.reduceLeDiff, Nat.reduceEqDiff, Int.reduceNeg, Int.reduceAdd, Int.reduceToNat, reduceIte, reduceCtorEq, tab_k, tab_f, tab_b, Nat.mul_one, tab_len, over_tab, cut_tab, ia_sref, int_at, int_over, bool_at, bool_over, nilEqAV, touch]; rfl) (by first | exact .inl rfl | exact .inr (apart_nil _) | (right; apply apart_mk; simp only [apartL, List.nil_append, List.cons_append, List.getElem?_cons_succ, List.getElem?_cons_zero, Tch.free, and_true, true_and]; first | done | omega)) ?_) | (refine WC.yes rfl ?_) | (refine WC.no rfl ?_) | (refine WC.skip ?_) | (refine WC.exit ?_) | (refine WC.ret ?_) | (refine WC.block ?_) | (refine WT.em2 rfl (by intro hp; simp only [hp, decide_true]; rfl) (by intro hp; simp only [hp, decide_false]; rfl) (fun hp => ?_) (fun hp => ?_) <;> try (exfalso; first | omega | contradiction)) | (refine WO.em2 rfl (by intro hp; simp only [hp, decide_true]; rfl) (by intro hp; simp only [hp, decide_false]; rfl) (fun hp => ?_) (fun hp => ?_) <;> try (exfalso; first | omega | contradiction)) | (refine WC.em2 rfl (fun hp => ?_) (fun hp => ?_) <;> try (exfalso; first | omega | contradiction)))
  · refine ⟨_, rfl, ?_⟩
    have h1 := newC_ints (cap := none) (H := [some ⟨0, ch.map (AV.int .i64)⟩]) (id := 0) (g := 0) (c := ch) rfl rfl
    simp only [oneRes, St.mem, newV, newT, newA, newC, gt8, gt0, gt4, gt5, gt6, List.length_nil, List.nil_append] at h1 ⊢
    simp only [h1]
    rfl

theorem f14good {n : Int} {rs : List Rg} (hv : VL n rs) {l : AV} (hl : RdL l rs) {p : Nat → Int} (hp0 : Pot rs p) (h28 : ∀ m, borrowR E9 28 [.int .i64 n, l] m = some (.snil, m)) : WF E11 (.func 14 [] []) [.int .i64 n, l] ⟨[], []⟩ fun y m' => ∃ ys, Sized rs n.toNat ys ∧ newV m'.heap y = some (.tuple [.sval true ys.length (ys.map (.int .i64)), .snil, .int .i64 0]) := by
  have hmax : rs.length < 9223372036854775808 := by have := hv.2.2.1; omega
  have hn1 := hv.1
  have hn2 := hv.2.1
  have hA := twoA_ok
  refine WF.fnE rfl (fn_of Try.func14 cir14) (by show 2 ≤ 60; decide) ?_
  unfold ir14
  simp only [padTo, List.replicate, List.nil_append, List.append_nil, List.cons_append]
  repeat' (first | (refine WO.yes rfl ?_) | (refine WO.noE rfl (by simp only [pt8, pt0, pt1, pt2, pt3, pt4, pt5, pt6, pt7]; rfl) ?_) | (refine WO.opE (by intro; simp (disch := omega) only [go_sem, Zz.look, Zz.over, Zz.cut, Nat.reduceAdd, Nat.reduceMul, Nat.reduceSub, Nat.reduceLeDiff, Nat.reduceEqDiff, Int.reduceNeg, Int.reduceAdd, Int.reduceToNat, reduceIte, reduceCtorEq, nilEqAV, zeros_int, zeros_bool, if_pos]; rfl) (by simp only [pt8, pt0, pt1, pt2, pt3, pt4, pt5, pt6, pt7]; rfl) ?_) | (refine WO.opN (by intro; simp (disch := omega) only [go_sem, Zz.look, Zz.over, Zz.cut, Nat.reduceAdd, Nat.reduceMul, Nat.reduceSub, Nat.reduceLeDiff, Nat.reduceEqDiff, Int.reduceNeg, Int.reduceAdd, Int.reduceToNat, reduceIte, reduceCtorEq, nilEqAV, zeros_int, zeros_bool, if_pos]; rfl) ?_) | (refine WO.opE (by intro; exact ev_lenS (by simp only [go_sem]; first | rfl | assumption)) (by simp only [pt8, pt0, pt1, pt2, pt3, pt4, pt5, pt6, pt7]; rfl) ?_) | (refine WO.specE rfl rfl (s12 hl hmax) (by simp only [pt8, pt0, pt1, pt2, pt3, pt4, pt5, pt6, pt7]; rfl) ?_) | (refine WO.specE rfl rfl (h28 _) (by simp only [pt8, pt0, pt1, pt2, pt3, pt4, pt5, pt6, pt7]; rfl) ?_) | (refine WC.seq ?_) | (refine WC.region ?_) | (refine WO.nil ?_) | (simp only [fl1, fl2, fl3, fl4, fl5, fl6, fl7, fl8, fl9, fl10, Nat.reduceBEq]) | (refine WC.calm rfl ?_) | (refine WC.drawT ?_) | (refine WT.nil ?_) | (refine WT.yes rfl ?_) | (refine WT.no rfl (by simp only [pt8, pt0, pt1, pt2, pt3, pt4, pt5, pt6, pt7]; rfl) ?_) | (refine WT.free rfl (by intro; simp (disch := omega) only [go_sem, Zz.look, Zz.over, Zz.cut, Nat.reduceAdd, Nat.reduceMul, Nat.reduceSub, Nat.reduceLeDiff, Nat.reduceEqDiff, Int.reduceNeg, Int.reduceAdd, Int.reduceToNat, reduceIte, reduceCtorEq, nilEqAV, zeros_int, zeros_bool, if_pos]; rfl) rfl (by simp only [pt8, pt0, pt1, pt2, pt3, pt4, pt5, pt6, pt7]; rfl) ?_) | (refine WT.big rfl rfl (by intro; simp (disch := omega) only [go_sem, Zz.look, Zz.over, Zz.cut, Nat.reduceAdd, Nat.reduceMul, Nat.reduceSub, Nat.reduceLeDiff, Nat.reduceEqDiff, Int.reduceNeg, Int.reduceAdd, Int.reduceToNat, reduceIte, reduceCtorEq, nilEqAV, zeros_int, zeros_bool, if_pos]; rfl) (by simp (disch := omega) only [go_sem, Zz.look, Zz.over, Zz.cut, Nat.reduceAdd, Nat.reduceMul, Nat.reduceSub, Nat.reduceLeDiff, Nat.reduceEqDiff, Int.reduceNeg, Int.reduceAdd, Int.reduceToNat, reduceIte, reduceCtorEq, nilEqAV, zeros_int, zeros_bool, if_pos, touch]; rfl) (by first | exact .inl rfl | exact .inr (apart_nil _) | (right; apply apart_mk; simp only [apartL, List.nil_append, List.cons_append, List.getElem?_cons_succ, List.getElem?_cons_zero, Tch.free, and_true, true_and]; first | done | omega)) (by simp only [pt8, pt0, pt1, pt2, pt3, pt4, pt5, pt6, pt7]; rfl) ?_) | (refine WT.bigN rfl rfl (by intro; simp (disch := omega) only [go_sem, Zz.look, Zz.over, Zz.cut, Nat.reduceAdd, Nat.reduceMul, Nat.reduceSub, Nat.reduceLeDiff, Nat.reduceEqDiff, Int.reduceNeg, Int.reduceAdd, Int.reduceToNat, reduceIte, reduceCtorEq, nilEqAV, zeros_int, zeros_bool, if_pos]; rfl) (by simp (disch := omega) only [go_sem, Zz.look, Zz.over, Zz.cut, Nat.reduceAdd, Nat.reduceMul, Nat.reduceSub, Nat.reduceLeDiff, Nat.reduceEqDiff, Int.reduceNeg, Int.reduceAdd, Int.reduceToNat, reduceIte, reduceCtorEq, nilEqAV, zeros_int, zeros_bool, if_pos, touch]; rfl) (by first | exact .inl rfl | exact .inr (apart_nil _) | (right; apply apart_mk; simp only [apartL, List.nil_append, List.cons_append, List.getElem?_cons_succ, List.getElem?_cons_zero, Tch.free, and_true, true_and]; first | done | omega)) ?_) | (refine WC.yes rfl ?_) | (refine WC.no rfl ?_) | (refine WC.skip ?_) | (refine WC.exit ?_) | (refine WC.ret ?_) | (refine WC.block ?_) | (refine WT.em2 rfl (by intro hp; simp only [hp, decide_true]; rfl) (by intro hp; simp only [hp, decide_false]; rfl) (fun hp => ?_) (fun hp => ?_) <;> try (exfalso; first | omega | contradiction)) | (refine WO.em2 rfl (by intro hp; simp only [hp, decide_true]; rfl) (by intro hp; simp only [hp, decide_false]; rfl) (fun hp => ?_) (fun hp => ?_) <;> try (exfalso; first | omega | contradiction)) | (refine WC.em2 rfl (fun hp => ?_) (fun hp => ?_) <;> try (exfalso; first | omega | contradiction)))
  have e0 : ([some ⟨0, (List.replicate n.toNat (0 : Int)).map (.int .i64)⟩, some ⟨0, (List.replicate n.toNat false).map .bool⟩] : Hp) = twoA (List.replicate n.toNat 0) (List.replicate n.toNat false) ++ [] := rfl
  rw [e0]
  generalize hAA : twoA = A at *
  refine WC.loopI (fun m s => ∃ T i sz dn R, s = ⟨T, A sz dn ++ R, []⟩ ∧ T.length = 60 ∧ gt T 0 = .int .i64 n ∧ gt T 1 = l ∧ gt T 8 = .sref 0 0 0 1 n.toNat (some n.toNat) ∧ gt T 9 = .sref 1 0 0 1 n.toNat (some n.toNat) ∧ gt T 27 = .int .i64 n ∧ gt T 28 = .int .i64 (i : Nat) ∧ i ≤ n.toNat ∧ m + i = n.toNat ∧ Doing rs n.toNat i sz dn) ?_ n.toNat _ ⟨_, 0, _, _, _, rfl, rfl, rfl, rfl, rfl, rfl, rfl, rfl, by omega, by omega, Doing.start rs n.toNat⟩
  rintro m _ ⟨T, i, sz, dn, R, rfl, hT, g0, g1, g8, g9, g27, g28, hi, hm, hdo⟩
  obtain ⟨f, rfl⟩ := ex60 hT
  clear hT
  replace g0 : f 0 = .int .i64 n := g0
  replace g1 : f 1 = l := g1
  replace g8 : f 8 = .sref 0 0 0 1 n.toNat (some n.toNat) := g8
  replace g9 : f 9 = .sref 1 0 0 1 n.toNat (some n.toNat) := g9
  replace g27 : f 27 = .int .i64 n := g27
  replace g28 : f 28 = .int .i64 (i : Nat) := g28
  simp only [g0, g1, g8, g9, g27, g28]
  have hls := hdo.1
  have hld := hdo.2.1
  by_cases hin : i < n.toNat
  · obtain ⟨X, hX, _, h29⟩ := s29 hv hl (i := i) (by omega) hp0
    repeat' (first | (refine WO.yes rfl ?_) | (refine WO.noE rfl (by simp only [pt8, pt0, pt1, pt2, pt3, pt4, pt5, pt6, pt7]; rfl) ?_) | (refine WO.opE (by intro; simp (disch := first | omega | (simp only [hA.len])) only [go_sem, zeros, List.append_assoc, List.length_append, Nat.reduceAdd, Nat.reduceMul, Nat.reduceSub, Nat.reduceLeDiff, Nat.reduceEqDiff, Int.reduceNeg, Int.reduceAdd, Int.reduceToNat, reduceIte, reduceCtorEq, hA.len, hA.l1, hA.l2, hA.s1, hA.s2, tab_k, tab_f, tab_b, Nat.mul_one, tab_len, over_tab, cut_tab, ia_sref, int_at, int_over, bool_at, bool_over, nilEqAV, lkr00, str00]; rfl) (by simp only [pt8, pt0, pt1, pt2, pt3, pt4, pt5, pt6, pt7]; rfl) ?_) | (refine WO.opN (by intro; simp (disch := first | omega | (simp only [hA.len])) only [go_sem, zeros, List.append_assoc, List.length_append, Nat.reduceAdd, Nat.reduceMul, Nat.reduceSub, Nat.reduceLeDiff, Nat.reduceEqDiff, Int.reduceNeg, Int.reduceAdd, Int.reduceToNat, reduceIte, reduceCtorEq, hA.len, hA.l1, hA.l2, hA.s1, hA.s2, tab_k, tab_f, tab_b, Nat.mul_one, tab_len, over_tab, cut_tab, ia_sref, int_at, int_over, bool_at, bool_over, nilEqAV, lkr00, str00]; rfl) ?_) | (refine WO.opE (by intro; exact ev_lenS (by simp only [go_sem]; first | rfl | assumption)) (by simp only [pt8, pt0, pt1, pt2, pt3, pt4, pt5, pt6, pt7]; rfl) ?_) | (refine WO.specE rfl rfl (h29 _) (by simp only [pt8, pt0, pt1, pt2, pt3, pt4, pt5, pt6, pt7]; rfl) ?_) | (refine WC.seq ?_) | (refine WC.region ?_) | (refine WO.nil ?_) | (simp only [fl1, fl2, fl3, fl4, fl5, fl6, fl7, fl8, fl9, fl10, Nat.reduceBEq]) | (refine WC.calm rfl ?_) | (refine WC.drawT ?_) | (refine WT.nil ?_) | (refine WT.yes rfl ?_) | (refine WT.no rfl (by simp only [pt8, pt0, pt1, pt2, pt3, pt4, pt5, pt6, pt7]; rfl) ?_) | (refine WT.free rfl (by intro; simp (disch := first | omega | (simp only [hA.len])) only [go_sem, zeros, List.append_assoc, List.length_append, Nat.reduceAdd, Nat.reduceMul, Nat.reduceSub, Nat.reduceLeDiff, Nat.reduceEqDiff, Int.reduceNeg, Int.reduceAdd, Int.reduceToNat, reduceIte, reduceCtorEq, hA.len, hA.l1, hA.l2, hA.s1, hA.s2, tab_k, tab_f, tab_b, Nat.mul_one, tab_len, over_tab, cut_tab, ia_sref, int_at, int_over, bool_at, bool_over, nilEqAV, lkr00, str00]; rfl) rfl (by simp only [pt8, pt0, pt1, pt2, pt3, pt4, pt5, pt6, pt7]; rfl) ?_) | (refine WT.big rfl rfl (by intro; simp (disch := first | omega | (simp only [hA.len])) only [go_sem, zeros, List.append_assoc, List.length_append, Nat.reduceAdd, Nat.reduceMul, Nat.reduceSub, Nat.reduceLeDiff, Nat.reduceEqDiff, Int.reduceNeg, Int.reduceAdd, Int.reduceToNat, reduceIte, reduceCtorEq, hA.len, hA.l1, hA.l2, hA.s1, hA.s2, tab_k, tab_f, tab_b, Nat.mul_one, tab_len, over_tab, cut_tab, ia_sref, int_at, int_over, bool_at, bool_over, nilEqAV, lkr00, str00]; rfl) (by simp (disch := first | omega | (simp only [hA.len])) only [go_sem, zeros, List.append_assoc, List.length_append, Nat.reduceAdd, Nat.reduceMul, Nat.reduceSub, Nat.reduceLeDiff, Nat.reduceEqDiff, Int.reduceNeg, Int.reduceAdd, Int.reduceToNat, reduceIte, reduceCtorEq, hA.len, hA.l1, hA.l2, hA.s1, hA.s2, tab_k, tab_f, tab_b, Nat.mul_one, tab_len, over_tab, cut_tab, ia_sref, int_at, int_over, bool_at, bool_over, nilEqAV, lkr00, str00, touch]; rfl) (by first | exact .inl rfl | exact .inr (apart_nil _) | (right; apply apart_mk; simp only [apartL, List.nil_append, List.cons_append, List.getElem?_cons_succ, List.getElem?_cons_zero, Tch.free, and_true, true_and]; first | done | omega)) (by simp only [pt8, pt0, pt1, pt2, pt3, pt4, pt5, pt6, pt7]; rfl) ?_) | (refine WT.bigN rfl rfl (by intro; simp (disch := first | omega | (simp only [hA.len])) only [go_sem, zeros, List.append_assoc, List.length_append, Nat.reduceAdd, Nat.reduceMul, Nat.reduceSub, Nat.reduceLeDiff, Nat.reduceEqDiff, Int.reduceNeg, Int.reduceAdd, Int.reduceToNat, reduceIte, reduceCtorEq, hA.len, hA.l1, hA.l2, hA.s1, hA.s2, tab_k, tab_f, tab_b, Nat.mul_one, tab_len, over_tab, cut_tab, ia_sref, int_at, int_over, bool_at, bool_over, nilEqAV, lkr00, str00]; rfl) (by simp (disch := first | omega | (simp only [hA.len])) only [go_sem, zeros, List.append_assoc, List.length_append, Nat.reduceAdd, Nat.reduceMul, Nat.reduceSub, Nat.reduceLeDiff, Nat.reduceEqDiff, Int.reduceNeg, Int.reduceAdd, Int.reduceToNat, reduceIte, reduceCtorEq, hA.len, hA.l1, hA.l2, hA.s1, hA.s2, tab_k, tab_f, tab_b, Nat.mul_one, tab_len, over_tab, cut_tab, ia_sref, int_at, int_over, bool_at, bool_over, nilEqAV, lkr00, str00, touch]; rfl) (by first | exact .inl rfl | exact .inr (apart_nil _) | (right; apply apart_mk; simp only [apartL, List.nil_append, List.cons_append, List.getElem?_cons_succ, List.getElem?_cons_zero, Tch.free, and_true, true_and]; first | done | omega)) ?_) | (refine WC.yes rfl ?_) | (refine WC.no rfl ?_) | (refine WC.skip ?_) | (refine WC.exit ?_) | (refine WC.ret ?_) | (refine WC.block ?_) | (refine WT.em2 rfl (by intro hp; simp only [hp, decide_true]; rfl) (by intro hp; simp only [hp, decide_false]; rfl) (fun hp => ?_) (fun hp => ?_) <;> try (exfalso; first | omega | contradiction)) | (refine WO.em2 rfl (by intro hp; simp only [hp, decide_true]; rfl) (by intro hp; simp only [hp, decide_false]; rfl) (fun hp => ?_) (fun hp => ?_) <;> try (exfalso; first | omega | contradiction)) | (refine WC.em2 rfl (fun hp => ?_) (fun hp => ?_) <;> try (exfalso; first | omega | contradiction)))
    · exact ⟨m - 1, by omega, _, i + 1, sz, dn, _, rfl, rfl, rfl, rfl, rfl, rfl, rfl, rfl, by omega, by omega, hdo.skip hin hp⟩
    have hnd := hp
    refine WC.loopI (fun m' s => ∃ T k sz' dn', s = ⟨T, A sz' dn' ++ (R ++ [some ⟨0, tab X⟩]), []⟩ ∧ T.length = 60 ∧ gt T 0 = .int .i64 n ∧ gt T 1 = l ∧ gt T 8 = .sref 0 0 0 1 n.toNat (some n.toNat) ∧ gt T 9 = .sref 1 0 0 1 n.toNat (some n.toNat) ∧ gt T 28 = .int .i64 (i : Nat) ∧ gt T 27 = .int .i64 n ∧ gt T 11 = .pref (2 + R.length) 0 0 ∧ gt T 39 = .int .i64 n ∧ gt T 40 = .int .i64 (k : Nat) ∧ k ≤ n.toNat ∧ m' + k = n.toNat ∧ Half X k sz dn sz' dn') ?_ n.toNat _ ⟨_, 0, sz, dn, rfl, rfl, rfl, rfl, rfl, rfl, rfl, rfl, rfl, rfl, rfl, by omega, by omega, Half.start⟩
    clear g0 g1 g8 g9 g27 g28 f
    rintro m' _ ⟨T, k, sz', dn', rfl, hT, g0, g1, g8, g9, g28, g27, g11, g39, g40, hk, hm', hh⟩
    obtain ⟨f, rfl⟩ := ex60 hT
    clear hT
    replace g0 : f 0 = .int .i64 n := g0
    replace g1 : f 1 = l := g1
    replace g8 : f 8 = .sref 0 0 0 1 n.toNat (some n.toNat) := g8
    replace g9 : f 9 = .sref 1 0 0 1 n.toNat (some n.toNat) := g9
    replace g28 : f 28 = .int .i64 (i : Nat) := g28
    replace g27 : f 27 = .int .i64 n := g27
    replace g11 : f 11 = .pref (2 + R.length) 0 0 := g11
    replace g39 : f 39 = .int .i64 n := g39
    replace g40 : f 40 = .int .i64 (k : Nat) := g40
    simp only [g0, g1, g8, g9, g28, g27, g11, g39, g40]
    have hls' := hh.1
    have hld' := hh.2.1
    by_cases hkn : k < n.toNat
    · have hk40 : k < 40 := by omega
      repeat' (first | (refine WO.yes rfl ?_) | (refine WO.noE rfl (by simp only [pt8, pt0, pt1, pt2, pt3, pt4, pt5, pt6, pt7]; rfl) ?_) | (refine WO.opE (by intro; simp (disch := first | omega | (simp only [hA.len])) only [go_sem, zeros, List.append_assoc, List.length_append, Nat.reduceAdd, Nat.reduceMul, Nat.reduceSub, Nat.reduceLeDiff, Nat.reduceEqDiff, Int.reduceNeg, Int.reduceAdd, Int.reduceToNat, reduceIte, reduceCtorEq, hA.len, hA.l1, hA.l2, hA.s1, hA.s2, tab_k, tab_f, tab_b, Nat.mul_one, tab_len, over_tab, cut_tab, ia_sref, int_at, int_over, bool_at, bool_over, nilEqAV, lkr00, str00]; rfl) (by simp only [pt8, pt0, pt1, pt2, pt3, pt4, pt5, pt6, pt7]; rfl) ?_) | (refine WO.opN (by intro; simp (disch := first | omega | (simp only [hA.len])) only [go_sem, zeros, List.append_assoc, List.length_append, Nat.reduceAdd, Nat.reduceMul, Nat.reduceSub, Nat.reduceLeDiff, Nat.reduceEqDiff, Int.reduceNeg, Int.reduceAdd, Int.reduceToNat, reduceIte, reduceCtorEq, hA.len, hA.l1, hA.l2, hA.s1, hA.s2, tab_k, tab_f, tab_b, Nat.mul_one, tab_len, over_tab, cut_tab, ia_sref, int_at, int_over, bool_at, bool_over, nilEqAV, lkr00, str00]; rfl) ?_) | (refine WO.opE (by intro; exact ev_lenS (by simp only [go_sem]; first | rfl | assumption)) (by simp only [pt8, pt0, pt1, pt2, pt3, pt4, pt5, pt6, pt7]; rfl) ?_) | (refine WC.seq ?_) | (refine WC.region ?_) | (refine WO.nil ?_) | (simp only [fl1, fl2, fl3, fl4, fl5, fl6, fl7, fl8, fl9, fl10, Nat.reduceBEq]) | (refine WC.calm rfl ?_) | (refine WC.drawT ?_) | (refine WT.nil ?_) | (refine WT.yes rfl ?_) | (refine WT.no rfl (by simp only [pt8, pt0, pt1, pt2, pt3, pt4, pt5, pt6, pt7]; rfl) ?_) | (refine WT.free rfl (by intro; simp (disch := first | omega | (simp only [hA.len])) only [go_sem, zeros, List.append_assoc, List.length_append, Nat.reduceAdd, Nat.reduceMul, Nat.reduceSub, Nat.reduceLeDiff, Nat.reduceEqDiff, Int.reduceNeg, Int.reduceAdd, Int.reduceToNat, reduceIte, reduceCtorEq, hA.len, hA.l1, hA.l2, hA.s1, hA.s2, tab_k, tab_f, tab_b, Nat.mul_one, tab_len, over_tab, cut_tab, ia_sref, int_at, int_over, bool_at, bool_over, nilEqAV, lkr00, str00]; rfl) rfl (by simp only [pt8, pt0, pt1, pt2, pt3, pt4, pt5, pt6, pt7]; rfl) ?_) | (refine WT.big rfl rfl (by intro; simp (disch := first | omega | (simp only [hA.len])) only [go_sem, zeros, List.append_assoc, List.length_append, Nat.reduceAdd, Nat.reduceMul, Nat.reduceSub, Nat.reduceLeDiff, Nat.reduceEqDiff, Int.reduceNeg, Int.reduceAdd, Int.reduceToNat, reduceIte, reduceCtorEq, hA.len, hA.l1, hA.l2, hA.s1, hA.s2, tab_k, tab_f, tab_b, Nat.mul_one, tab_len, over_tab, cut_tab, ia_sref, int_at, int_over, bool_at, bool_over, nilEqAV, lkr00, str00]; rfl) (by simp (disch := first | omega | (simp only [hA.len])) only [go_sem, zeros, List.append_assoc, List.length_append, Nat.reduceAdd, Nat.reduceMul, Nat.reduceSub, Nat.reduceLeDiff, Nat.reduceEqDiff, Int.reduceNeg, Int.reduceAdd, Int.reduceToNat, reduceIte, reduceCtorEq, hA.len, hA.l1, hA.l2, hA.s1, hA.s2, tab_k, tab_f, tab_b, Nat.mul_one, tab_len, over_tab, cut_tab, ia_sref, int_at, int_over, bool_at, bool_over, nilEqAV, lkr00, str00, touch]; rfl) (by first | exact .inl rfl | exact .inr (apart_nil _) | (right; apply apart_mk; simp only [apartL, List.nil_append, List.cons_append, List.getElem?_cons_succ, List.getElem?_cons_zero, Tch.free, and_true, true_and]; first | done | omega)) (by simp only [pt8, pt0, pt1, pt2, pt3, pt4, pt5, pt6, pt7]; rfl) ?_) | (refine WT.bigN rfl rfl (by intro; simp (disch := first | omega | (simp only [hA.len])) only [go_sem, zeros, List.append_assoc, List.length_append, Nat.reduceAdd, Nat.reduceMul, Nat.reduceSub, Nat.reduceLeDiff, Nat.reduceEqDiff, Int.reduceNeg, Int.reduceAdd, Int.reduceToNat, reduceIte, reduceCtorEq, hA.len, hA.l1, hA.l2, hA.s1, hA.s2, tab_k, tab_f, tab_b, Nat.mul_one, tab_len, over_tab, cut_tab, ia_sref, int_at, int_over, bool_at, bool_over, nilEqAV, lkr00, str00]; rfl) (by simp (disch := first | omega | (simp only [hA.len])) only [go_sem, zeros, List.append_assoc, List.length_append, Nat.reduceAdd, Nat.reduceMul, Nat.reduceSub, Nat.reduceLeDiff, Nat.reduceEqDiff, Int.reduceNeg, Int.reduceAdd, Int.reduceToNat, reduceIte, reduceCtorEq, hA.len, hA.l1, hA.l2, hA.s1, hA.s2, tab_k, tab_f, tab_b, Nat.mul_one, tab_len, over_tab, cut_tab, ia_sref, int_at, int_over, bool_at, bool_over, nilEqAV, lkr00, str00, touch]; rfl) (by first | exact .inl rfl | exact .inr (apart_nil _) | (right; apply apart_mk; simp only [apartL, List.nil_append, List.cons_append, List.getElem?_cons_succ, List.getElem?_cons_zero, Tch.free, and_true, true_and]; first | done | omega)) ?_) | (refine WC.yes rfl ?_) | (refine WC.no rfl ?_) | (refine WC.skip ?_) | (refine WC.exit ?_) | (refine WC.ret ?_) | (refine WC.block ?_) | (refine WT.em2 rfl (by intro hp; simp only [hp, decide_true]; rfl) (by intro hp; simp only [hp, decide_false]; rfl) (fun hp => ?_) (fun hp => ?_) <;> try (exfalso; first | omega | contradiction)) | (refine WO.em2 rfl (by intro hp; simp only [hp, decide_true]; rfl) (by intro hp; simp only [hp, decide_false]; rfl) (fun hp => ?_) (fun hp => ?_) <;> try (exfalso; first | omega | contradiction)) | (refine WC.em2 rfl (fun hp => ?_) (fun hp => ?_) <;> try (exfalso; first | omega | contradiction)))
      · exact ⟨m' - 1, by omega, _, k + 1, _, _, rfl, rfl, rfl, rfl, rfl, rfl, rfl, rfl, rfl, rfl, rfl, by omega, by omega, hh.yes (by omega) (by omega) hp⟩
      · exact ⟨m' - 1, by omega, _, k + 1, _, _, rfl, rfl, rfl, rfl, rfl, rfl, rfl, rfl, rfl, rfl, rfl, by omega, by omega, hh.no hp⟩
    · have hkn' : k = n.toNat := by omega
      subst hkn'
      repeat' (first | (refine WO.yes rfl ?_) | (refine WO.noE rfl (by simp only [pt8, pt0, pt1, pt2, pt3, pt4, pt5, pt6, pt7]; rfl) ?_) | (refine WO.opE (by intro; simp (disch := first | omega | (simp only [hA.len])) only [go_sem, zeros, List.append_assoc, List.length_append, Nat.reduceAdd, Nat.reduceMul, Nat.reduceSub, Nat.reduceLeDiff, Nat.reduceEqDiff, Int.reduceNeg, Int.reduceAdd, Int.reduceToNat, reduceIte, reduceCtorEq, hA.len, hA.l1, hA.l2, hA.s1, hA.s2, tab_k, tab_f, tab_b, Nat.mul_one, tab_len, over_tab, cut_tab, ia_sref, int_at, int_over, bool_at, bool_over, nilEqAV, lkr00, str00]; rfl) (by simp only [pt8, pt0, pt1, pt2, pt3, pt4, pt5, pt6, pt7]; rfl) ?_) | (refine WO.opN (by intro; simp (disch := first | omega | (simp only [hA.len])) only [go_sem, zeros, List.append_assoc, List.length_append, Nat.reduceAdd, Nat.reduceMul, Nat.reduceSub, Nat.reduceLeDiff, Nat.reduceEqDiff, Int.reduceNeg, Int.reduceAdd, Int.reduceToNat, reduceIte, reduceCtorEq, hA.len, hA.l1, hA.l2, hA.s1, hA.s2, tab_k, tab_f, tab_b, Nat.mul_one, tab_len, over_tab, cut_tab, ia_sref, int_at, int_over, bool_at, bool_over, nilEqAV, lkr00, str00]; rfl) ?_) | (refine WO.opE (by intro; exact ev_lenS (by simp only [go_sem]; first | rfl | assumption)) (by simp only [pt8, pt0, pt1, pt2, pt3, pt4, pt5, pt6, pt7]; rfl) ?_) | (refine WC.seq ?_) | (refine WC.region ?_) | (refine WO.nil ?_) | (simp only [fl1, fl2, fl3, fl4, fl5, fl6, fl7, fl8, fl9, fl10, Nat.reduceBEq]) | (refine WC.calm rfl ?_) | (refine WC.drawT ?_) | (refine WT.nil ?_) | (refine WT.yes rfl ?_) | (refine WT.no rfl (by simp only [pt8, pt0, pt1, pt2, pt3, pt4, pt5, pt6, pt7]; rfl) ?_) | (refine WT.free rfl (by intro; simp (disch := first | omega | (simp only [hA.len])) only [go_sem, zeros, List.append_assoc, List.length_append, Nat.reduceAdd, Nat.reduceMul, Nat.reduceSub, Nat.reduceLeDiff, Nat.reduceEqDiff, Int.reduceNeg, Int.reduceAdd, Int.reduceToNat, reduceIte, reduceCtorEq, hA.len, hA.l1, hA.l2, hA.s1, hA.s2, tab_k, tab_f, tab_b, Nat.mul_one, tab_len, over_tab, cut_tab, ia_sref, int_at, int_over, bool_at, bool_over, nilEqAV, lkr00, str00]; rfl) rfl (by simp only [pt8, pt0, pt1, pt2, pt3, pt4, pt5, pt6, pt7]; rfl) ?_) | (refine WT.big rfl rfl (by intro; simp (disch := first | omega | (simp only [hA.len])) only [go_sem, zeros, List.append_assoc, List.length_append, Nat.reduceAdd, Nat.reduceMul, Nat.reduceSub, Nat.reduceLeDiff, Nat.reduceEqDiff, Int.reduceNeg, Int.reduceAdd, Int.reduceToNat, reduceIte, reduceCtorEq, hA.len, hA.l1, hA.l2, hA.s1, hA.s2, tab_k, tab_f, tab_b, Nat.mul_one, tab_len, over_tab, cut_tab, ia_sref, int_at, int_over, bool_at, bool_over, nilEqAV, lkr00, str00]; rfl) (by simp (disch := first | omega | (simp only [hA.len])) only [go_sem, zeros, List.append_assoc, List.length_append, Nat.reduceAdd, Nat.reduceMul, Nat.reduceSub, Nat.reduceLeDiff, Nat.reduceEqDiff, Int.reduceNeg, Int.reduceAdd, Int.reduceToNat, reduceIte, reduceCtorEq, hA.len, hA.l1, hA.l2, hA.s1, hA.s2, tab_k, tab_f, tab_b, Nat.mul_one, tab_len, over_tab, cut_tab, ia_sref, int_at, int_over, bool_at, bool_over, nilEqAV, lkr00, str00, touch]; rfl) (by first | exact .inl rfl | exact .inr (apart_nil _) | (right; apply apart_mk; simp only [apartL, List.nil_append, List.cons_append, List.getElem?_cons_succ, List.getElem?_cons_zero, Tch.free, and_true, true_and]; first | done | omega)) (by simp only [pt8, pt0, pt1, pt2, pt3, pt4, pt5, pt6, pt7]; rfl) ?_) | (refine WT.bigN rfl rfl (by intro; simp (disch := first | omega | (simp only [hA.len])) only [go_sem, zeros, List.append_assoc, List.length_append, Nat.reduceAdd, Nat.reduceMul, Nat.reduceSub, Nat.reduceLeDiff, Nat.reduceEqDiff, Int.reduceNeg, Int.reduceAdd, Int.reduceToNat, reduceIte, reduceCtorEq, hA.len, hA.l1, hA.l2, hA.s1, hA.s2, tab_k, tab_f, tab_b, Nat.mul_one, tab_len, over_tab, cut_tab, ia_sref, int_at, int_over, bool_at, bool_over, nilEqAV, lkr00, str00]; rfl) (by simp (disch := first | omega | (simp only [hA.len])) only [go_sem, zeros, List.append_assoc, List.length_append, Nat.reduceAdd, Nat.reduceMul, Nat.reduceSub, Nat.reduceLeDiff, Nat.reduceEqDiff, Int.reduceNeg, Int.reduceAdd, Int.reduceToNat, reduceIte, reduceCtorEq, hA.len, hA.l1, hA.l2, hA.s1, hA.s2, tab_k, tab_f, tab_b, Nat.mul_one, tab_len, over_tab, cut_tab, ia_sref, int_at, int_over, bool_at, bool_over, nilEqAV, lkr00, str00, touch]; rfl) (by first | exact .inl rfl | exact .inr (apart_nil _) | (right; apply apart_mk; simp only [apartL, List.nil_append, List.cons_append, List.getElem?_cons_succ, List.getElem?_cons_zero, Tch.free, and_true, true_and]; first | done | omega)) ?_) | (refine WC.yes rfl ?_) | (refine WC.no rfl ?_) | (refine WC.skip ?_) | (refine WC.exit ?_) | (refine WC.ret ?_) | (refine WC.block ?_) | (refine WT.em2 rfl (by intro hp; simp only [hp, decide_true]; rfl) (by intro hp; simp only [hp, decide_false]; rfl) (fun hp => ?_) (fun hp => ?_) <;> try (exfalso; first | omega | contradiction)) | (refine WO.em2 rfl (by intro hp; simp only [hp, decide_true]; rfl) (by intro hp; simp only [hp, decide_false]; rfl) (fun hp => ?_) (fun hp => ?_) <;> try (exfalso; first | omega | contradiction)) | (refine WC.em2 rfl (fun hp => ?_) (fun hp => ?_) <;> try (exfalso; first | omega | contradiction)))
      exact ⟨m - 1, by omega, _, i + 1, _, _, _, rfl, rfl, rfl, rfl, rfl, rfl, rfl, rfl, by omega, by omega, hdo.next hin hnd hX (by rw [← hls] at hh ⊢; exact hh)⟩
  · have hin' : i = n.toNat := by omega
    subst hin'
    repeat' (first | (refine WO.yes rfl ?_) | (refine WO.noE rfl (by simp only [pt8, pt0, pt1, pt2, pt3, pt4, pt5, pt6, pt7]; rfl) ?_) | (refine WO.opE (by intro; simp (disch := first | omega | (simp only [hA.len])) only [go_sem, zeros, Zz.cut, List.append_assoc, List.length_append, Nat.reduceAdd, Nat.reduceMul, Nat.reduceSub, Nat.reduceLeDiff, Nat.reduceEqDiff, Int.reduceNeg, Int.reduceAdd, Int.reduceToNat, reduceIte, reduceCtorEq, hA.len, hA.l1, hA.l2, hA.s1, hA.s2, tab_k, tab_f, tab_b, Nat.mul_one, tab_len, over_tab, cut_tab, ia_sref, int_at, int_over, bool_at, bool_over, nilEqAV]; rfl) (by simp only [pt8, pt0, pt1, pt2, pt3, pt4, pt5, pt6, pt7]; rfl) ?_) | (refine WO.opN (by intro; simp (disch := first | omega | (simp only [hA.len])) only [go_sem, zeros, Zz.cut, List.append_assoc, List.length_append, Nat.reduceAdd, Nat.reduceMul, Nat.reduceSub, Nat.reduceLeDiff, Nat.reduceEqDiff, Int.reduceNeg, Int.reduceAdd, Int.reduceToNat, reduceIte, reduceCtorEq, hA.len, hA.l1, hA.l2, hA.s1, hA.s2, tab_k, tab_f, tab_b, Nat.mul_one, tab_len, over_tab, cut_tab, ia_sref, int_at, int_over, bool_at, bool_over, nilEqAV]; rfl) ?_) | (refine WO.opE (by intro; exact ev_lenS (by simp only [go_sem]; first | rfl | assumption)) (by simp only [pt8, pt0, pt1, pt2, pt3, pt4, pt5, pt6, pt7]; rfl) ?_) | (refine WC.seq ?_) | (refine WC.region ?_) | (refine WO.nil ?_) | (simp only [fl1, fl2, fl3, fl4, fl5, fl6, fl7, fl8, fl9, fl10, Nat.reduceBEq]) | (refine WC.calm rfl ?_) | (refine WC.drawT ?_) | (refine WT.nil ?_) | (refine WT.yes rfl ?_) | (refine WT.no rfl (by simp only [pt8, pt0, pt1, pt2, pt3, pt4, pt5, pt6, pt7]; rfl) ?_) | (refine WT.free rfl (by intro; simp (disch := first | omega | (simp only [hA.len])) only [go_sem, zeros, Zz.cut, List.append_assoc, List.length_append, Nat.reduceAdd, Nat.reduceMul, Nat.reduceSub, Nat.reduceLeDiff, Nat.reduceEqDiff, Int.reduceNeg, Int.reduceAdd, Int.reduceToNat, reduceIte, reduceCtorEq, hA.len, hA.l1, hA.l2, hA.s1, hA.s2, tab_k, tab_f, tab_b, Nat.mul_one, tab_len, over_tab, cut_tab, ia_sref, int_at, int_over, bool_at, bool_over, nilEqAV]; rfl) rfl (by simp only [pt8, pt0, pt1, pt2, pt3, pt4, pt5, pt6, pt7]; rfl) ?_) | (refine WT.big rfl rfl (by intro; simp (disch := first | omega | (simp only [hA.len])) only [go_sem, zeros, Zz.cut, List.append_assoc, List.length_append, Nat.reduceAdd, Nat.reduceMul, Nat.reduceSub, Nat.reduceLeDiff, Nat.reduceEqDiff, Int.reduceNeg, Int.reduceAdd, Int.reduceToNat, reduceIte, reduceCtorEq, hA.len, hA.l1, hA.l2, hA.s1, hA.s2, tab_k, tab_f, tab_b, Nat.mul_one, tab_len, over_tab, cut_tab, ia_sref, int_at, int_over, bool_at, bool_over, nilEqAV]; rfl) (by simp (disch := first | omega | (simp only [hA.len])) only [go_sem, zeros, Zz.cut, List.append_assoc, List.length_append, Nat.reduceAdd, Nat.reduceMul, Nat.reduceSub, Nat.reduceLeDiff, Nat.reduceEqDiff, Int.reduceNeg, Int.reduceAdd, Int.reduceToNat, reduceIte, reduceCtorEq, hA.len, hA.l1, hA.l2, hA.s1, hA.s2, tab_k, tab_f, tab_b, Nat.mul_one, tab_len, over_tab, cut_tab, ia_sref, int_at, int_over, bool_at, bool_over, nilEqAV, touch]; rfl) (by first | exact .inl rfl | exact .inr (apart_nil _) | (right; apply apart_mk; simp only [apartL, List.nil_append, List.cons_append, List.getElem?_cons_succ, List.getElem?_cons_zero, Tch.free, and_true, true_and]; first | done | omega)) (by simp only [pt8, pt0, pt1, pt2, pt3, pt4, pt5, pt6, pt7]; rfl) ?_) | (refine WT.bigN rfl rfl (by intro; simp (disch := first | omega | (simp only [hA.len])) only [go_sem, zeros, Zz.cut, List.append_assoc, List.length_append, Nat.reduceAdd, Nat.reduceMul, Nat.reduceSub, Nat.reduceLeDiff, Nat.reduceEqDiff, Int.reduceNeg, Int.reduceAdd, Int.reduceToNat, reduceIte, reduceCtorEq, hA.len, hA.l1, hA.l2, hA.s1, hA.s2, tab_k, tab_f, tab_b, Nat.mul_one, tab_len, over_tab, cut_tab, ia_sref, int_at, int_over, bool_at, bool_over, nilEqAV]; rfl) (by simp (disch := first | omega | (simp only [hA.len])) only [go_sem, zeros, Zz.cut, List.append_assoc, List.length_append, Nat.reduceAdd, Nat.reduceMul, Nat.reduceSub, Nat.reduceLeDiff, Nat.reduceEqDiff, Int.reduceNeg, Int.reduceAdd, Int.reduceToNat, reduceIte, reduceCtorEq, hA.len, hA.l1, hA.l2, hA.s1, hA.s2, tab_k, tab_f, tab_b, Nat.mul_one, tab_len, over_tab, cut_tab, ia_sref, int_at, int_over, bool_at, bool_over, nilEqAV, touch]; rfl) (by first | exact .inl rfl | exact .inr (apart_nil _) | (right; apply apart_mk; simp only [apartL, List.nil_append, List.cons_append, List.getElem?_cons_succ, List.getElem?_cons_zero, Tch.free, and_true, true_and]; first | done | omega)) ?_) | (refine WC.yes rfl ?_) | (refine WC.no rfl ?_) | (refine WC.skip ?_) | (refine WC.exit ?_) | (refine WC.ret ?_) | (refine WC.block ?_) | (refine WT.em2 rfl (by intro hp; simp only [hp, decide_true]; rfl) (by intro hp; simp only [hp, decide_false]; rfl) (fun hp => ?_) (fun hp => ?_) <;> try (exfalso; first | omega | contradiction)) | (refine WO.em2 rfl (by intro hp; simp only [hp, decide_true]; rfl) (by intro hp; simp only [hp, decide_false]; rfl) (fun hp => ?_) (fun hp => ?_) <;> try (exfalso; first | omega | contradiction)) | (refine WC.em2 rfl (fun hp => ?_) (fun hp => ?_) <;> try (exfalso; first | omega | contradiction)))
    have hsz : Sized rs n.toNat sz := hdo.done hv (p := p) (fun i hi => by
      obtain ⟨X, hX, _⟩ := s29 hv hl (i := i) hi hp0
      exact ⟨X, hX⟩)
    refine ⟨_, rfl, sz, hsz, ?_⟩
    have h1 := newC_ints (H := A sz dn ++ R) (id := 0) (g := 0) (n := n.toNat) (cap := some n.toNat) (c := sz) (hA.l1 _ _ _) hls
    simp only [oneRes, St.mem, newV, newT, newA, h1, gt8, gt0, gt4, gt5, gt6, hls, beq_self_eq_true]
    rfl

/-- What Solve answers. -/
def SolveOut (n : Int) (rs : List Rg) (v : AV) : Prop :=
  (¬ VL n rs ∧ v = .tuple [.snil, .snil, .int .i64 1]) ∨ (VL n rs ∧ ∃ ch, Contra rs ch ∧ v = .tuple [.snil, .sval false ch.length (ch.map (.int .i64)), .int .i64 23]) ∨
    (VL n rs ∧ (∃ p, Pot rs p) ∧ ∃ ys, Sized rs n.toNat ys ∧ v = .tuple [.sval true ys.length (ys.map (.int .i64)), .snil, .int .i64 0])
theorem s14 {n : Int} {rs : List Rg} {l : AV} (hl : RdL l rs) (hmax : rs.length < 9223372036854775808) : ∃ v, SolveOut n rs v ∧ ∀ (l' : AV) (m : Mem), byVal m.heap l' = some l → borrowX E11 14 [.int .i64 n, l'] m = some (v, m) := by
  by_cases hv : VL n rs
  · rcases s28 hv hl with ⟨⟨p, hp⟩, h28⟩ | ⟨ch, hc, h28⟩
    · obtain ⟨k, y, m', h, ys, hs, hr⟩ := (f14good hv hl hp h28).ex
      exact ⟨_, .inr (.inr ⟨hv, ⟨p, hp⟩, ys, hs, rfl⟩), fun l' m hb => borrowX_of (byVals_cons rfl (byVals_cons hb rfl)) ⟨⟨k, y, m', h, hr⟩⟩⟩
    · exact ⟨_, .inr (.inl ⟨hv, ch, hc, rfl⟩), fun l' m hb => borrowX_of (byVals_cons rfl (byVals_cons hb rfl)) (f14lie hv hl hc h28)⟩
  · exact ⟨_, .inl ⟨hv, rfl⟩, fun l' m hb => borrowX_of (byVals_cons rfl (byVals_cons hb rfl)) ((f14bad hv hl hmax).mono fun y m' h => by rw [h]; rfl)⟩

noncomputable def E12 : Env := E11.put 14 (borrowX E11 14)
theorem E12_ok : EnvOk Try.prog E12 := Env.put_ok E11_ok (borrowX_ok E11_ok (callable Try.func14 (by kernel_rfl)))
end Go.Proofs.Ytndaljjljmmlcaa

