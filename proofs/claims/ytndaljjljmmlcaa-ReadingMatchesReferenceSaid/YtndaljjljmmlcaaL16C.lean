import Derived.Test.YtndaljjljmmlcaaL16B
import Derived.Test.YtndaljjljmmlcaaAbsI

set_option linter.unusedSimpArgs false
set_option linter.unusedVariables false
namespace Go.Proofs.Ytndaljjljmmlcaa
open Go.Zz

/-! ### Rounds as a run of steps -/

def numAt (k : Nat) : Int := if k % 2 = 0 then ((k / 2 : Nat) : Int) + 1 else 0 - ((k / 2 : Nat) : Int) - 1
def Er (rs : List Rg) (t : Nat) : Bf.Edge := eOf rs (numAt (t % (2 * rs.length)))

theorem num_at {rs : List Rg} {k : Nat} (h : k < 2 * rs.length) : Num rs (numAt k) := by
  unfold Num numAt
  split <;> omega
theorem Er_per (rs : List Rg) (t : Nat) : Er rs (t + 2 * rs.length) = Er rs t := by
  unfold Er
  rw [Nat.add_mod_right]
theorem Er_num {rs : List Rg} (h : rs ≠ []) (t : Nat) : ∃ s, Num rs s ∧ Er rs t = eOf rs s := by
  have := List.length_pos_iff.2 h
  exact ⟨_, num_at (Nat.mod_lt _ (by omega)), rfl⟩
theorem num_Er {rs : List Rg} {s : Int} (h : Num rs s) : ∃ t, Er rs t = eOf rs s := by
  obtain ⟨h0, h1, h2⟩ := h
  by_cases hs : 0 < s
  · refine ⟨2 * (s - 1).toNat, ?_⟩
    unfold Er
    rw [Nat.mod_eq_of_lt (by omega)]
    congr 1
    unfold numAt
    rw [if_pos (by omega)]
    omega
  · refine ⟨2 * (-s - 1).toNat + 1, ?_⟩
    unfold Er
    rw [Nat.mod_eq_of_lt (by omega)]
    congr 1
    unfold numAt
    rw [if_neg (by omega)]
    omega

theorem okNum {n : Int} {rs : List Rg} (hv : VL n rs) {s : Int} (h : Num rs s) : 0 ≤ stA rs s ∧ stA rs s < n ∧ 0 ≤ stB rs s ∧ stB rs s < n ∧ stA rs s ≠ stB rs s ∧ -100000000000000 ≤ stW rs s ∧ stW rs s ≤ 100000000000000 := by
  obtain ⟨h0, h1, h2⟩ := h
  unfold stA stB stW rdOf
  by_cases hs : s < 0
  · simp only [hs, if_true]
    obtain ⟨o1, o2, o3, o4, o5, o6, o7, o8⟩ := hv.at (i := (-s - 1).toNat) (by omega)
    omega
  · simp only [hs, if_false]
    obtain ⟨o1, o2, o3, o4, o5, o6, o7, o8⟩ := hv.at (i := (s - 1).toNat) (by omega)
    omega

theorem Er_ok {n : Int} {rs : List Rg} (hv : VL n rs) (h : rs ≠ []) : Bf.Ok (Er rs) (2 * rs.length) n.toNat := by
  have hp := List.length_pos_iff.2 h
  refine ⟨fun t => ?_, Er_per rs, by omega, fun t => ?_, fun t => ?_⟩ <;> (
    obtain ⟨s, hs, e⟩ := Er_num h t
    rw [e]
    obtain ⟨a1, a2, a3, a4, a5, a6, a7⟩ := okNum hv hs
    simp only [eOf]
    omega)

/-- One step. -/
theorem step_run {E : Nat → Bf.Edge} {x : Bf.S} {t : Nat} {l : Int} : stepL (Bf.run E x t, l) (E t) = (Bf.run E x (t + 1), if Bf.fires (Bf.run E x t) (E t) then (((E t).b : Nat) : Int) else l) := by
  unfold stepL
  cases h : Bf.fires (Bf.run E x t) (E t) with
  | true => simp only [if_true]; rw [Bf.run_yes h]
  | false => simp only [Bool.false_eq_true, if_false]; rw [Bf.run_no h]

/-- What the last item says. -/
def Says (E : Nat → Bf.Edge) (x : Bf.S) (t0 k : Nat) (l : Int) : Prop := (l = -1 ∧ ∀ j, j < k → Bf.fires (Bf.run E x (t0 + j)) (E (t0 + j)) = false) ∨ ∃ v : Nat, l = v ∧ t0 < Bf.tm E x (t0 + k) v

theorem Says.step {E : Nat → Bf.Edge} {x : Bf.S} {t0 k : Nat} {l : Int} (h : Says E x t0 k l) : Says E x t0 (k + 1) (if Bf.fires (Bf.run E x (t0 + k)) (E (t0 + k)) then (((E (t0 + k)).b : Nat) : Int) else l) := by
  cases hf : Bf.fires (Bf.run E x (t0 + k)) (E (t0 + k)) with
  | true =>
    simp only [if_true]
    refine .inr ⟨_, rfl, ?_⟩
    rw [show t0 + (k + 1) = t0 + k + 1 by omega, Bf.tm_yes hf]
    omega
  | false =>
    simp only [Bool.false_eq_true, if_false]
    rcases h with ⟨h1, h2⟩ | ⟨v, h1, h2⟩
    · refine .inl ⟨h1, fun j hj => ?_⟩
      by_cases e : j = k
      · subst e; exact hf
      · exact h2 j (by omega)
    · refine .inr ⟨v, h1, ?_⟩
      rw [show t0 + (k + 1) = t0 + k + 1 by omega]
      exact Nat.lt_of_lt_of_le h2 (Bf.tm_mono1 _ _)

theorem pass_run {rs : List Rg} (x : Bf.S) (r : Nat) : ∀ i, i ≤ rs.length → (passTo rs (Bf.run (Er rs) x (r * (2 * rs.length)), -1) i).1 = Bf.run (Er rs) x (r * (2 * rs.length) + 2 * i) ∧
    Says (Er rs) x (r * (2 * rs.length)) (2 * i) (passTo rs (Bf.run (Er rs) x (r * (2 * rs.length)), -1) i).2
  | 0, _ => ⟨rfl, .inl ⟨rfl, fun j hj => by omega⟩⟩
  | i + 1, hi => by
    obtain ⟨h1, h2⟩ := pass_run (rs := rs) x r i (by omega)
    have e1 : Er rs (r * (2 * rs.length) + 2 * i) = eOf rs ((i : Int) + 1) := by
      unfold Er
      rw [show r * (2 * rs.length) + 2 * i = (2 * i) + r * (2 * rs.length) by omega, Nat.add_mul_mod_self_right, Nat.mod_eq_of_lt (by omega)]
      congr 1
      unfold numAt
      rw [if_pos (by omega)]
      omega
    have e2 : Er rs (r * (2 * rs.length) + 2 * i + 1) = eOf rs (0 - (i : Int) - 1) := by
      unfold Er
      rw [show r * (2 * rs.length) + 2 * i + 1 = (2 * i + 1) + r * (2 * rs.length) by omega, Nat.add_mul_mod_self_right, Nat.mod_eq_of_lt (by omega)]
      congr 1
      unfold numAt
      rw [if_neg (by omega)]
      omega
    generalize hq : passTo rs (Bf.run (Er rs) x (r * (2 * rs.length)), -1) i = q at h1 h2
    obtain ⟨q1, q2⟩ := q
    replace h1 : q1 = Bf.run (Er rs) x (r * (2 * rs.length) + 2 * i) := h1
    replace h2 : Says (Er rs) x (r * (2 * rs.length)) (2 * i) q2 := h2
    subst h1
    have h3 := h2.step
    have h4 := h3.step
    simp only [passTo, hq]
    rw [← e1, step_run, ← e2, step_run]
    refine ⟨rfl, ?_⟩
    rw [show 2 * (i + 1) = 2 * i + 1 + 1 by omega]
    exact h4

theorem rd_run {rs : List Rg} (x : Bf.S) : ∀ r : Nat, (rd rs x r).1 = Bf.run (Er rs) x (r * (2 * rs.length))
  | 0 => by simp [rd, Bf.run]
  | r + 1 => by
    have ih := rd_run (rs := rs) x r
    have := (pass_run (rs := rs) x r rs.length (Nat.le_refl _)).1
    simp only [rd, ih]
    rw [this, show (r + 1) * (2 * rs.length) = r * (2 * rs.length) + 2 * rs.length from Nat.succ_mul _ _]
theorem rd_says {rs : List Rg} (x : Bf.S) (r : Nat) : Says (Er rs) x (r * (2 * rs.length)) (2 * rs.length) (rd rs x (r + 1)).2 := by
  have := (pass_run (rs := rs) x r rs.length (Nat.le_refl _)).2
  simp only [rd, rd_run]
  exact this

/-- Nothing is lowered any more. -/
def Fixed (rs : List Rg) (X : Bf.S) : Prop := ∀ s, Num rs s → Bf.fires X (eOf rs s) = false

/-- What comes of settle: a state that is not lowered any more; or an item that was lowered late. -/
theorem settled {n : Int} {rs : List Rg} (hv : VL n rs) (x : Bf.S) {r : Nat} (h : (rd rs x (r + 1)).2 < 0) : Fixed rs (rd rs x (r + 1)).1 := by
  by_cases he : rs = []
  · subst he
    intro s hs
    obtain ⟨h0, h1, h2⟩ := hs
    simp at h1 h2
    omega
  · have hp := List.length_pos_iff.2 he
    rcases rd_says (rs := rs) x r with ⟨_, h2⟩ | ⟨v, h2, _⟩
    · obtain ⟨s1, s2⟩ := Bf.still (E := Er rs) (x := x) (L := 2 * rs.length) (t0 := r * (2 * rs.length)) h2 (Er_per rs) (by omega)
      have := s1 (2 * rs.length) (Nat.le_refl _)
      rw [rd_run, show (r + 1) * (2 * rs.length) = r * (2 * rs.length) + 2 * rs.length from Nat.succ_mul _ _, this]
      intro s hs
      obtain ⟨t, ht⟩ := num_Er hs
      rw [← ht]
      exact s2 t
    · omega

theorem late_of {n : Int} {rs : List Rg} (hv : VL n rs) (x : Bf.S) {r : Nat} (h : ¬ (rd rs x (r + 1)).2 < 0) (hr : n.toNat ≤ r) : ∃ v : Nat, (rd rs x (r + 1)).2 = v ∧ rs ≠ [] ∧ n.toNat * (2 * rs.length) < Bf.tm (Er rs) x ((r + 1) * (2 * rs.length)) v := by
  rcases rd_says (rs := rs) x r with ⟨h1, _⟩ | ⟨v, h1, h2⟩
  · omega
  · refine ⟨v, h1, ?_, ?_⟩
    · intro e
      subst e
      have := Bf.tm_le (E := Er []) (x := x) 0 v
      simp at h2
      omega
    · rw [show (r + 1) * (2 * rs.length) = r * (2 * rs.length) + 2 * rs.length from Nat.succ_mul _ _]
      refine Nat.lt_of_le_of_lt (Nat.mul_le_mul_right _ hr) h2

/-- Sizes that agree. -/
def Pot (rs : List Rg) (p : Nat → Int) : Prop := ∀ s, Num rs s → p (eOf rs s).b ≤ p (eOf rs s).a + (eOf rs s).w
theorem Pot.Er {rs : List Rg} {p : Nat → Int} (h : Pot rs p) (he : rs ≠ []) : Bf.Pot (Er rs) p := fun t => by
  obtain ⟨s, hs, e⟩ := Er_num he t
  rw [e]
  exact h s hs

/-- Where sizes agree, settle ends with nothing lowered. -/
theorem no_late {n : Int} {rs : List Rg} (hv : VL n rs) (x : Bf.S) {r : Nat} (hr : n.toNat ≤ r) {p : Nat → Int} (hp : Pot rs p) : (rd rs x (r + 1)).2 < 0 := by
  refine Decidable.of_not_not fun h => ?_
  obtain ⟨v, h1, h2, h3⟩ := late_of hv x h hr
  have := Bf.no_late (x := x) (Er_ok hv h2) (hp.Er h2) ((r + 1) * (2 * rs.length)) v
  omega

end Go.Proofs.Ytndaljjljmmlcaa


set_option linter.unusedSimpArgs false
set_option linter.unusedVariables false
namespace Go.Proofs.Ytndaljjljmmlcaa
open Go.Zz


/-- slices.Reverse, of what was grown. -/
theorem f37 {Γ : Env} (hs : Γ.spec 37 = none) (hf : Γ.fn 37 = some ir37) {q g : Nat} {A : List Int → Hp} (hA1 : ∀ c, Zz.look (A c) q g = some (c.map (.int .i64))) (hA2 : ∀ c c', (A c).set q (some ⟨g, c'.map (.int .i64)⟩) = A c')
    {c0 : List Int} (h0 : 0 < c0.length) (hmax : c0.length < 1000000) {L : List (Option ALoop)} : WF Γ (.func 37 [] []) [.sref q g 0 1 c0.length none] ⟨A c0, L⟩ fun v m' => m' = ⟨A c0.reverse, L⟩ := by
  refine WF.fnE hs hf (by show 1 ≤ 28; decide) ?_
  unfold ir37
  simp only [padTo, List.replicate, List.nil_append, List.append_nil, List.cons_append]
  repeat' (first | (refine WO.yes rfl ?_) | (refine WO.noE rfl (by simp only [pt8, pt0, pt1, pt2, pt3, pt4, pt5, pt6, pt7]; rfl) ?_) | (refine WO.opE (by intro; simp (disch := first | omega | (simp only [List.length_set]; omega)) only [go_sem, zeros, Zz.cut, List.append_assoc, List.length_append, Nat.reduceAdd, Nat.reduceMul, Nat.reduceSub, Nat.reduceLeDiff, Nat.reduceEqDiff, Int.reduceNeg, Int.reduceAdd, Int.reduceToNat, reduceIte, reduceCtorEq, hA1, hA2, ia_sref, int_at, int_over, Nat.mul_one, List.length_set]; rfl) (by simp only [pt8, pt0, pt1, pt2, pt3, pt4, pt5, pt6, pt7]; rfl) ?_) | (refine WO.opN (by intro; simp (disch := first | omega | (simp only [List.length_set]; omega)) only [go_sem, zeros, Zz.cut, List.append_assoc, List.length_append, Nat.reduceAdd, Nat.reduceMul, Nat.reduceSub, Nat.reduceLeDiff, Nat.reduceEqDiff, Int.reduceNeg, Int.reduceAdd, Int.reduceToNat, reduceIte, reduceCtorEq, hA1, hA2, ia_sref, int_at, int_over, Nat.mul_one, List.length_set]; rfl) ?_) | (refine WO.opE (by intro; exact ev_lenS (by simp only [go_sem]; first | rfl | assumption)) (by simp only [pt8, pt0, pt1, pt2, pt3, pt4, pt5, pt6, pt7]; rfl) ?_) | (refine WO.opE (by intro; exact ev_lenS (by simp only [go_sem]; exact rfl)) (by simp only [pt8, pt0, pt1, pt2, pt3, pt4, pt5, pt6, pt7]; rfl) ?_) | (refine WC.seq ?_) | (refine WC.region ?_) | (refine WO.nil ?_) | (simp only [fl1, fl2, fl3, fl4, fl5, fl6, fl7, fl8, fl9, fl10, Nat.reduceBEq]) | (refine WC.calm rfl ?_) | (refine WC.drawT ?_) | (refine WT.nil ?_) | (refine WT.yes rfl ?_) | (refine WT.no rfl (by simp only [pt8, pt0, pt1, pt2, pt3, pt4, pt5, pt6, pt7]; rfl) ?_) | (refine WT.free rfl (by intro; simp (disch := first | omega | (simp only [List.length_set]; omega)) only [go_sem, zeros, Zz.cut, List.append_assoc, List.length_append, Nat.reduceAdd, Nat.reduceMul, Nat.reduceSub, Nat.reduceLeDiff, Nat.reduceEqDiff, Int.reduceNeg, Int.reduceAdd, Int.reduceToNat, reduceIte, reduceCtorEq, hA1, hA2, ia_sref, int_at, int_over, Nat.mul_one, List.length_set]; rfl) rfl (by simp only [pt8, pt0, pt1, pt2, pt3, pt4, pt5, pt6, pt7]; rfl) ?_) | (refine WT.big rfl rfl (by intro; simp (disch := first | omega | (simp only [List.length_set]; omega)) only [go_sem, zeros, Zz.cut, List.append_assoc, List.length_append, Nat.reduceAdd, Nat.reduceMul, Nat.reduceSub, Nat.reduceLeDiff, Nat.reduceEqDiff, Int.reduceNeg, Int.reduceAdd, Int.reduceToNat, reduceIte, reduceCtorEq, hA1, hA2, ia_sref, int_at, int_over, Nat.mul_one, List.length_set]; rfl) (by simp (disch := first | omega | (simp only [List.length_set]; omega)) only [go_sem, zeros, Zz.cut, List.append_assoc, List.length_append, Nat.reduceAdd, Nat.reduceMul, Nat.reduceSub, Nat.reduceLeDiff, Nat.reduceEqDiff, Int.reduceNeg, Int.reduceAdd, Int.reduceToNat, reduceIte, reduceCtorEq, hA1, hA2, ia_sref, int_at, int_over, Nat.mul_one, List.length_set, touch]; rfl) (by first | exact .inl rfl | exact .inr (apart_nil _) | (right; apply apart_mk; simp only [apartL, List.nil_append, List.cons_append, List.getElem?_cons_succ, List.getElem?_cons_zero, Tch.free, and_true, true_and]; first | done | omega)) (by simp only [pt8, pt0, pt1, pt2, pt3, pt4, pt5, pt6, pt7]; rfl) ?_) | (refine WT.bigN rfl rfl (by intro; simp (disch := first | omega | (simp only [List.length_set]; omega)) only [go_sem, zeros, Zz.cut, List.append_assoc, List.length_append, Nat.reduceAdd, Nat.reduceMul, Nat.reduceSub, Nat.reduceLeDiff, Nat.reduceEqDiff, Int.reduceNeg, Int.reduceAdd, Int.reduceToNat, reduceIte, reduceCtorEq, hA1, hA2, ia_sref, int_at, int_over, Nat.mul_one, List.length_set]; rfl) (by simp (disch := first | omega | (simp only [List.length_set]; omega)) only [go_sem, zeros, Zz.cut, List.append_assoc, List.length_append, Nat.reduceAdd, Nat.reduceMul, Nat.reduceSub, Nat.reduceLeDiff, Nat.reduceEqDiff, Int.reduceNeg, Int.reduceAdd, Int.reduceToNat, reduceIte, reduceCtorEq, hA1, hA2, ia_sref, int_at, int_over, Nat.mul_one, List.length_set, touch]; rfl) (by first | exact .inl rfl | exact .inr (apart_nil _) | (right; apply apart_mk; simp only [apartL, List.nil_append, List.cons_append, List.getElem?_cons_succ, List.getElem?_cons_zero, Tch.free, and_true, true_and]; first | done | omega)) ?_) | (refine WC.yes rfl ?_) | (refine WC.no rfl ?_) | (refine WC.skip ?_) | (refine WC.exit ?_) | (refine WC.ret ?_) | (refine WC.block ?_) | (refine WT.em2 rfl (by intro hp; simp only [hp, decide_true]; rfl) (by intro hp; simp only [hp, decide_false]; rfl) (fun hp => ?_) (fun hp => ?_) <;> try (exfalso; first | omega | contradiction)) | (refine WO.em2 rfl (by intro hp; simp only [hp, decide_true]; rfl) (by intro hp; simp only [hp, decide_false]; rfl) (fun hp => ?_) (fun hp => ?_) <;> try (exfalso; first | omega | contradiction)) | (refine WC.em2 rfl (fun hp => ?_) (fun hp => ?_) <;> try (exfalso; first | omega | contradiction)))
  refine WC.loopI (fun m s => ∃ T c i j, s = ⟨T, A c, L⟩ ∧ T.length = 28 ∧ gt T 0 = .sref q g 0 1 c0.length none ∧ gt T 2 = .int .i64 (i : Nat) ∧ gt T 3 = .int .i64 (j : Nat) ∧ c.length = c0.length ∧ i + j + 1 = c0.length ∧ m = j ∧ ∀ t, t < c0.length → c.getD t 0 = if t < i ∨ c0.length - 1 - t < i then c0.getD (c0.length - 1 - t) 0 else c0.getD t 0) ?_ (c0.length - 1) _ ⟨_, c0, 0, c0.length - 1, rfl, rfl, rfl, rfl, by simp only [gt8, gt0, gt1, gt2, gt3, gt4, gt5, gt6, gt7, AV.int.injEq, true_and]; omega, rfl, by omega, rfl, fun t ht => by rw [if_neg (by omega)]⟩
  rintro m _ ⟨T, c, i, j, rfl, hT, g0, g2, g3, hc, hij, hmj, ih⟩
  obtain ⟨f, rfl⟩ := ex28 hT
  clear hT
  replace g0 : f 0 = .sref q g 0 1 c0.length none := g0
  replace g2 : f 2 = .int .i64 (i : Nat) := g2
  replace g3 : f 3 = .int .i64 (j : Nat) := g3
  simp only [g0, g2, g3]
  repeat' (first | (refine WO.yes rfl ?_) | (refine WO.noE rfl (by simp only [pt8, pt0, pt1, pt2, pt3, pt4, pt5, pt6, pt7]; rfl) ?_) | (refine WO.opE (by intro; simp (disch := first | omega | (simp only [List.length_set]; omega)) only [go_sem, zeros, Zz.cut, List.append_assoc, List.length_append, Nat.reduceAdd, Nat.reduceMul, Nat.reduceSub, Nat.reduceLeDiff, Nat.reduceEqDiff, Int.reduceNeg, Int.reduceAdd, Int.reduceToNat, reduceIte, reduceCtorEq, hA1, hA2, ia_sref, int_at, int_over, Nat.mul_one, List.length_set]; rfl) (by simp only [pt8, pt0, pt1, pt2, pt3, pt4, pt5, pt6, pt7]; rfl) ?_) | (refine WO.opN (by intro; simp (disch := first | omega | (simp only [List.length_set]; omega)) only [go_sem, zeros, Zz.cut, List.append_assoc, List.length_append, Nat.reduceAdd, Nat.reduceMul, Nat.reduceSub, Nat.reduceLeDiff, Nat.reduceEqDiff, Int.reduceNeg, Int.reduceAdd, Int.reduceToNat, reduceIte, reduceCtorEq, hA1, hA2, ia_sref, int_at, int_over, Nat.mul_one, List.length_set]; rfl) ?_) | (refine WO.opE (by intro; exact ev_lenS (by simp only [go_sem]; first | rfl | assumption)) (by simp only [pt8, pt0, pt1, pt2, pt3, pt4, pt5, pt6, pt7]; rfl) ?_) | (refine WO.opE (by intro; exact ev_lenS (by simp only [go_sem]; exact rfl)) (by simp only [pt8, pt0, pt1, pt2, pt3, pt4, pt5, pt6, pt7]; rfl) ?_) | (refine WC.seq ?_) | (refine WC.region ?_) | (refine WO.nil ?_) | (simp only [fl1, fl2, fl3, fl4, fl5, fl6, fl7, fl8, fl9, fl10, Nat.reduceBEq]) | (refine WC.calm rfl ?_) | (refine WC.drawT ?_) | (refine WT.nil ?_) | (refine WT.yes rfl ?_) | (refine WT.no rfl (by simp only [pt8, pt0, pt1, pt2, pt3, pt4, pt5, pt6, pt7]; rfl) ?_) | (refine WT.free rfl (by intro; simp (disch := first | omega | (simp only [List.length_set]; omega)) only [go_sem, zeros, Zz.cut, List.append_assoc, List.length_append, Nat.reduceAdd, Nat.reduceMul, Nat.reduceSub, Nat.reduceLeDiff, Nat.reduceEqDiff, Int.reduceNeg, Int.reduceAdd, Int.reduceToNat, reduceIte, reduceCtorEq, hA1, hA2, ia_sref, int_at, int_over, Nat.mul_one, List.length_set]; rfl) rfl (by simp only [pt8, pt0, pt1, pt2, pt3, pt4, pt5, pt6, pt7]; rfl) ?_) | (refine WT.big rfl rfl (by intro; simp (disch := first | omega | (simp only [List.length_set]; omega)) only [go_sem, zeros, Zz.cut, List.append_assoc, List.length_append, Nat.reduceAdd, Nat.reduceMul, Nat.reduceSub, Nat.reduceLeDiff, Nat.reduceEqDiff, Int.reduceNeg, Int.reduceAdd, Int.reduceToNat, reduceIte, reduceCtorEq, hA1, hA2, ia_sref, int_at, int_over, Nat.mul_one, List.length_set]; rfl) (by simp (disch := first | omega | (simp only [List.length_set]; omega)) only [go_sem, zeros, Zz.cut, List.append_assoc, List.length_append, Nat.reduceAdd, Nat.reduceMul, Nat.reduceSub, Nat.reduceLeDiff, Nat.reduceEqDiff, Int.reduceNeg, Int.reduceAdd, Int.reduceToNat, reduceIte, reduceCtorEq, hA1, hA2, ia_sref, int_at, int_over, Nat.mul_one, List.length_set, touch]; rfl) (by first | exact .inl rfl | exact .inr (apart_nil _) | (right; apply apart_mk; simp only [apartL, List.nil_append, List.cons_append, List.getElem?_cons_succ, List.getElem?_cons_zero, Tch.free, and_true, true_and]; first | done | omega)) (by simp only [pt8, pt0, pt1, pt2, pt3, pt4, pt5, pt6, pt7]; rfl) ?_) | (refine WT.bigN rfl rfl (by intro; simp (disch := first | omega | (simp only [List.length_set]; omega)) only [go_sem, zeros, Zz.cut, List.append_assoc, List.length_append, Nat.reduceAdd, Nat.reduceMul, Nat.reduceSub, Nat.reduceLeDiff, Nat.reduceEqDiff, Int.reduceNeg, Int.reduceAdd, Int.reduceToNat, reduceIte, reduceCtorEq, hA1, hA2, ia_sref, int_at, int_over, Nat.mul_one, List.length_set]; rfl) (by simp (disch := first | omega | (simp only [List.length_set]; omega)) only [go_sem, zeros, Zz.cut, List.append_assoc, List.length_append, Nat.reduceAdd, Nat.reduceMul, Nat.reduceSub, Nat.reduceLeDiff, Nat.reduceEqDiff, Int.reduceNeg, Int.reduceAdd, Int.reduceToNat, reduceIte, reduceCtorEq, hA1, hA2, ia_sref, int_at, int_over, Nat.mul_one, List.length_set, touch]; rfl) (by first | exact .inl rfl | exact .inr (apart_nil _) | (right; apply apart_mk; simp only [apartL, List.nil_append, List.cons_append, List.getElem?_cons_succ, List.getElem?_cons_zero, Tch.free, and_true, true_and]; first | done | omega)) ?_) | (refine WC.yes rfl ?_) | (refine WC.no rfl ?_) | (refine WC.skip ?_) | (refine WC.exit ?_) | (refine WC.ret ?_) | (refine WC.block ?_) | (refine WT.em2 rfl (by intro hp; simp only [hp, decide_true]; rfl) (by intro hp; simp only [hp, decide_false]; rfl) (fun hp => ?_) (fun hp => ?_) <;> try (exfalso; first | omega | contradiction)) | (refine WO.em2 rfl (by intro hp; simp only [hp, decide_true]; rfl) (by intro hp; simp only [hp, decide_false]; rfl) (fun hp => ?_) (fun hp => ?_) <;> try (exfalso; first | omega | contradiction)) | (refine WC.em2 rfl (fun hp => ?_) (fun hp => ?_) <;> try (exfalso; first | omega | contradiction)))
  · refine ⟨j - 1, by omega, _, (c.set i (c.getD j 0)).set j (c.getD i 0), i + 1, j - 1, rfl, rfl, rfl, rfl, by simp only [gt8, gt0, gt1, gt2, gt3, AV.int.injEq, true_and]; omega, by simp [hc], by omega, rfl, fun t ht => ?_⟩
    have a1 := ih t ht
    have a2 := ih i (by omega)
    have a3 := ih j (by omega)
    rw [if_neg (by omega)] at a2 a3
    rw [a2, a3]
    have es : ∀ (l : List Int) (a b : Nat) (v : Int), a < l.length → (l.set a v).getD b 0 = if b = a then v else l.getD b 0 := fun l a b v h => by
      simp only [List.getD_eq_getElem?_getD]
      by_cases e : b = a
      · subst e; simp [h]
      · rw [if_neg e, List.getElem?_set_ne (Ne.symm e)]
    rw [es _ _ _ _ (by simp; omega), es _ _ _ _ (by omega), a1]
    by_cases e1 : t = j
    · subst e1
      rw [if_pos rfl, if_pos (by omega)]
      congr 1
      omega
    · rw [if_neg e1]
      by_cases e2 : t = i
      · subst e2
        rw [if_pos rfl, if_pos (by omega)]
        congr 1
        omega
      · rw [if_neg e2]
        by_cases e3 : t < i ∨ c0.length - 1 - t < i
        · rw [if_pos e3, if_pos (by omega)]
        · rw [if_neg e3, if_neg (by omega)]
  · refine ⟨_, rfl, ?_⟩
    have e : c = c0.reverse := by
      apply List.ext_getElem (by simp [hc])
      intro t h1 h2
      have a := ih t (by omega)
      simp only [List.getD_eq_getElem?_getD, List.getElem?_eq_getElem h1, Option.getD_some] at a
      rw [a, List.getElem_reverse]
      by_cases e3 : t < i ∨ c0.length - 1 - t < i
      · rw [if_pos e3, List.getElem?_eq_getElem (by omega)]; rfl
      · rw [if_neg e3, List.getElem?_eq_getElem (by omega)]
        simp only [Option.getD_some]
        congr 1
        omega
    rw [← e]
    rfl
end Go.Proofs.Ytndaljjljmmlcaa


set_option linter.unusedSimpArgs false
set_option linter.unusedVariables false
namespace Go.Proofs.Ytndaljjljmmlcaa
open Go.Zz

/-- A contradiction. -/
structure Contra (rs : List Rg) (ch : List Int) : Prop where
  ne : ch ≠ []
  len : ch.length ≤ 40
  num : ∀ s ∈ ch, Num rs s
  link : ∀ j, j < ch.length → stB rs (ch.getD j 0) = stA rs (ch.getD ((j + 1) % ch.length) 0)
  neg : (ch.map (stW rs)).sum < 0

theorem least {P : Nat → Prop} : ∀ n, P n → ∃ q, q ≤ n ∧ P q ∧ ∀ k, k < q → ¬ P k := by
  intro n
  induction n using Nat.strongRecOn with
  | ind n ih =>
    intro h
    by_cases hx : ∃ k, k < n ∧ P k
    · obtain ⟨k, h1, h2⟩ := hx
      obtain ⟨q, q1, q2, q3⟩ := ih k h1 h2
      exact ⟨q, by omega, q2, q3⟩
    · exact ⟨n, Nat.le_refl _, h, fun k hk hp => hx ⟨k, hk, hp⟩⟩

/-- Back over what lowered what. -/
structure Trail (n : Int) (rs : List Rg) (X : Bf.S) (bk : Nat → Nat) (q : Nat) : Prop where
  num : ∀ i, Num rs (X.by_ (bk i))
  beg : ∀ i, stA rs (X.by_ (bk i)) = (bk (i + 1) : Int)
  fin : ∀ i, stB rs (X.by_ (bk i)) = (bk i : Int)
  lt : ∀ i, (bk i : Int) < n
  pos : 0 < q
  le : q ≤ n.toNat
  cyc : bk (n.toNat + q) = bk n.toNat
  first : ∀ k, 0 < k → k < q → bk (n.toNat + k) ≠ bk n.toNat
  neg : ((List.range q).map fun c => stW rs (X.by_ (bk (n.toNat + c)))).sum < 0

theorem trail_of {n : Int} {rs : List Rg} (hv : VL n rs) {x : Bf.S} {r : Nat} (h : ¬ (rd rs x (r + 1)).2 < 0) (hr : n.toNat ≤ r) : ∃ v bk q, (rd rs x (r + 1)).2 = ((v : Nat) : Int) ∧ bk 0 = v ∧ Trail n rs (rd rs x (r + 1)).1 bk q := by
  obtain ⟨v, h1, h2, h3⟩ := late_of hv x h hr
  have hok := Er_ok hv h2
  have hl := Bf.late hok h3
  rw [rd_run]
  generalize ht : (r + 1) * (2 * rs.length) = t at *
  obtain ⟨q0, c1, c2, c3⟩ := hl.cyc
  obtain ⟨q, q1, ⟨q2, q3⟩, q4⟩ := least (P := fun k => 0 < k ∧ Bf.back (Er rs) x t v (n.toNat + k) = Bf.back (Er rs) x t v n.toNat) q0 ⟨c1, c3⟩
  have fact : ∀ i, ∃ s, Num rs s ∧ (Bf.run (Er rs) x t).by_ (Bf.back (Er rs) x t v i) = s ∧ Bf.pe (Er rs) x t (Bf.back (Er rs) x t v i) = eOf rs s ∧ (eOf rs s).b = Bf.back (Er rs) x t v i := fun i => by
    obtain ⟨s1, s2, s3, s4, s5, s6⟩ := Bf.slack (E := Er rs) (x := x) hok.ne (hl.pos i)
    obtain ⟨s, hs, e⟩ := Er_num h2 (Bf.tm (Er rs) x t (Bf.back (Er rs) x t v i) - 1)
    have e' : Bf.pe (Er rs) x t (Bf.back (Er rs) x t v i) = eOf rs s := e
    refine ⟨s, hs, ?_, e', ?_⟩
    · rw [s2, e']; rfl
    · rw [← e', s1]
  refine ⟨v, Bf.back (Er rs) x t v, q, h1, rfl, fun i => ?_, fun i => ?_, fun i => ?_, fun i => ?_, q2, by omega, q3, fun k k1 k2 e => q4 k k2 ⟨k1, e⟩, ?_⟩
  · obtain ⟨s, f1, f2, f3, f4⟩ := fact i
    rw [f2]; exact f1
  · obtain ⟨s, f1, f2, f3, f4⟩ := fact i
    rw [f2]
    have e : Bf.back (Er rs) x t v (i + 1) = (eOf rs s).a := by
      show (Bf.pe (Er rs) x t (Bf.back (Er rs) x t v i)).a = _
      rw [f3]
    rw [e]
    have := (okNum hv f1).1
    simp only [eOf]
    omega
  · obtain ⟨s, f1, f2, f3, f4⟩ := fact i
    rw [f2, ← f4]
    have := (okNum hv f1).2.2.1
    simp only [eOf]
    omega
  · obtain ⟨s, f1, f2, f3, f4⟩ := fact i
    rw [← f4]
    have := (okNum hv f1).2.2
    simp only [eOf]
    omega
  · have hneg := Bf.negative hok hl (c := n.toNat) q2 q3
    have es : ∀ q, ((List.range q).map fun c => stW rs ((Bf.run (Er rs) x t).by_ (Bf.back (Er rs) x t v (n.toNat + c)))).sum = Bf.sumW (Er rs) x t v n.toNat q := by
      intro q
      induction q with
      | zero => rfl
      | succ q ih =>
        rw [List.range_succ, List.map_append, List.sum_append, ih]
        obtain ⟨s, f1, f2, f3, f4⟩ := fact (n.toNat + q)
        simp only [List.map_cons, List.map_nil, List.sum_cons, List.sum_nil, Bf.sumW, f2, f3, eOf]
        omega
    rw [es]
    exact hneg

/-- The chain, as it is found. -/
def found (X : Bf.S) (bk : Nat → Nat) (n q : Nat) : List Int := (List.range q).map fun c => X.by_ (bk (n + c))

theorem found_succ {X : Bf.S} {bk : Nat → Nat} {n q : Nat} : found X bk n (q + 1) = found X bk n q ++ [X.by_ (bk (n + q))] := by
  simp [found, List.range_succ]
theorem found_len {X : Bf.S} {bk : Nat → Nat} {n q : Nat} : (found X bk n q).length = q := by simp [found]
theorem found_get {X : Bf.S} {bk : Nat → Nat} {n q c : Nat} (h : c < q) : (found X bk n q).getD c 0 = X.by_ (bk (n + c)) := by
  simp [found, h]

theorem sum_rev (l : List Int) : l.reverse.sum = l.sum := by
  induction l with
  | nil => rfl
  | cons a l ih => simp only [List.reverse_cons, List.sum_append, ih, List.sum_cons, List.sum_nil]; omega

theorem contra_of {n : Int} {rs : List Rg} (hv : VL n rs) {X : Bf.S} {bk : Nat → Nat} {q : Nat} (h : Trail n rs X bk q) : Contra rs (found X bk n.toNat q).reverse := by
  have hpos := h.pos
  have hle := h.le
  have hn := hv.2.1
  have rg : ∀ j, j < q → (found X bk n.toNat q).reverse.getD j 0 = X.by_ (bk (n.toNat + (q - 1 - j))) := fun j hj => by
    have e : (found X bk n.toNat q).reverse.getD j 0 = (found X bk n.toNat q).getD (q - 1 - j) 0 := by
      simp only [List.getD_eq_getElem?_getD]
      rw [List.getElem?_reverse (by rw [found_len]; exact hj), found_len]
    rw [e, found_get (by omega)]
  refine ⟨fun e => ?_, ?_, fun s hs => ?_, fun j hj => ?_, ?_⟩
  · have := congrArg List.length e
    simp [found_len] at this
    omega
  · rw [List.length_reverse, found_len]; omega
  · rw [List.mem_reverse] at hs
    obtain ⟨c, _, rfl⟩ := List.mem_map.1 hs
    exact h.num _
  · rw [List.length_reverse, found_len] at hj ⊢
    rw [rg j hj, h.fin]
    by_cases e : j + 1 = q
    · rw [e, Nat.mod_self, rg 0 hpos, h.beg, show n.toNat + (q - 1 - 0) + 1 = n.toNat + q by omega, h.cyc, show n.toNat + (q - 1 - j) = n.toNat by omega]
    · rw [Nat.mod_eq_of_lt (by omega), rg (j + 1) (by omega), h.beg]
      congr 2
      omega
  · rw [List.map_reverse, sum_rev]
    have := h.neg
    simpa [found, Function.comp_def] using this

end Go.Proofs.Ytndaljjljmmlcaa


set_option linter.unusedSimpArgs false
set_option linter.unusedVariables false
namespace Go.Proofs.Ytndaljjljmmlcaa
open Go.Zz
set_option maxRecDepth 100000
def kn (i : Nat) : Bf.S := ⟨fun j => decide (j < i), fun _ => 0, fun _ => 0⟩
theorem z120 : ([.bool false, .bool false, .bool false, .bool false, .bool false, .bool false, .bool false, .bool false, .bool false, .bool false, .bool false, .bool false, .bool false, .bool false, .bool false, .bool false, .bool false, .bool false, .bool false, .bool false, .bool false, .bool false, .bool false, .bool false, .bool false, .bool false, .bool false, .bool false, .bool false, .bool false, .bool false, .bool false, .bool false, .bool false, .bool false, .bool false, .bool false, .bool false, .bool false, .bool false, .int .i64 0, .int .i64 0, .int .i64 0, .int .i64 0, .int .i64 0, .int .i64 0, .int .i64 0, .int .i64 0, .int .i64 0, .int .i64 0, .int .i64 0, .int .i64 0, .int .i64 0, .int .i64 0, .int .i64 0, .int .i64 0, .int .i64 0, .int .i64 0, .int .i64 0, .int .i64 0, .int .i64 0, .int .i64 0, .int .i64 0, .int .i64 0, .int .i64 0, .int .i64 0, .int .i64 0, .int .i64 0, .int .i64 0, .int .i64 0, .int .i64 0, .int .i64 0, .int .i64 0, .int .i64 0, .int .i64 0, .int .i64 0, .int .i64 0, .int .i64 0, .int .i64 0, .int .i64 0, .int .i64 0, .int .i64 0, .int .i64 0, .int .i64 0, .int .i64 0, .int .i64 0, .int .i64 0, .int .i64 0, .int .i64 0, .int .i64 0, .int .i64 0, .int .i64 0, .int .i64 0, .int .i64 0, .int .i64 0, .int .i64 0, .int .i64 0, .int .i64 0, .int .i64 0, .int .i64 0, .int .i64 0, .int .i64 0, .int .i64 0, .int .i64 0, .int .i64 0, .int .i64 0, .int .i64 0, .int .i64 0, .int .i64 0, .int .i64 0, .int .i64 0, .int .i64 0, .int .i64 0, .int .i64 0, .int .i64 0, .int .i64 0, .int .i64 0, .int .i64 0, .int .i64 0, .int .i64 0] : List AV) = tab (kn 0) := by rfl
theorem kn_succ (i : Nat) : (⟨Bf.upd (kn i).known i true, (kn i).far, (kn i).by_⟩ : Bf.S) = kn (i + 1) := by
  have : Bf.upd (kn i).known i true = (kn (i + 1)).known := by
    funext j
    simp only [Bf.upd, kn]
    split
    · rename_i h; subst h; simp
    · rename_i h
      by_cases h1 : j < i
      · simp [h1, Nat.lt_succ_of_lt h1]
      · simp [h1]; omega
  rw [this]
  rfl
/-- Not lowered, all known: sizes that agree. -/
theorem pot_of {n : Int} {rs : List Rg} (hv : VL n rs) {r : Nat} (h : Fixed rs (rd rs (kn n.toNat) r).1) : Pot rs (rd rs (kn n.toNat) r).1.far := by
  intro s hs
  obtain ⟨a1, a2, a3, a4, a5, a6, a7⟩ := okNum hv hs
  have hk : ∀ v : Nat, (v : Int) < n → (rd rs (kn n.toNat) r).1.known v = true := fun v hvn => by
    rw [rd_run]
    exact Bf.known_mono (t := 0) (Nat.zero_le _) (by simp [Bf.run, kn]; omega)
  have ha := hk (eOf rs s).a (by simp only [eOf]; omega)
  have hb := hk (eOf rs s).b (by simp only [eOf]; omega)
  have hf := h s hs
  simp only [Bf.fires, ha, hb, Bool.true_and, Bool.not_true, Bool.false_or, decide_eq_false_iff_not] at hf
  omega
def tblA (x : Bf.S) : Hp := [some ⟨0, tab x⟩]
theorem tblA_ok : Tbl tblA 0 1 := ⟨fun _ => rfl, by decide, fun _ _ => rfl, fun _ _ _ => rfl⟩
theorem kn_bnd (i : Nat) : Bnd 0 (kn i) := fun v => by simp [kn]

theorem f28a {n : Int} {rs : List Rg} (hv : VL n rs) {l : AV} (hl : RdL l rs) : WF E9 (.func 28 [] []) [.int .i64 n, l] ⟨[], []⟩ fun y m' =>
    (y = .snil ∧ ∃ p, Pot rs p) ∨ ∃ ch id g, Contra rs ch ∧ y = .sref id g 0 1 ch.length none ∧ Zz.look m'.heap id g = some (ch.map (.int .i64)) := by
  have hn1 := hv.1
  have hn2 := hv.2.1
  have hA := tblA_ok
  refine WF.fnE rfl (fn_of Try.func28 cir28) (by show 2 ≤ 60; decide) ?_
  unfold ir28
  simp only [padTo, List.replicate, List.nil_append, List.append_nil, List.cons_append]
  refine WC.seq (WC.region ?_)
  repeat' (first | (refine WO.yes rfl ?_) | (refine WO.noE rfl (by simp only [pt8, pt0, pt1, pt2, pt3, pt4, pt5, pt6, pt7]; rfl) ?_) | (refine WO.opE (by intro; simp (disch := omega) only [go_sem, Zz.look, Zz.over, Zz.cut, Nat.reduceAdd, Nat.reduceMul, Nat.reduceSub, Nat.reduceLeDiff, Nat.reduceEqDiff, Int.reduceNeg, Int.reduceAdd, Int.reduceToNat, reduceIte, reduceCtorEq]; rfl) (by simp only [pt8, pt0, pt1, pt2, pt3, pt4, pt5, pt6, pt7]; rfl) ?_) | (refine WO.opN (by intro; simp (disch := omega) only [go_sem, Zz.look, Zz.over, Zz.cut, Nat.reduceAdd, Nat.reduceMul, Nat.reduceSub, Nat.reduceLeDiff, Nat.reduceEqDiff, Int.reduceNeg, Int.reduceAdd, Int.reduceToNat, reduceIte, reduceCtorEq]; rfl) ?_) | (refine WO.opE (by intro; exact ev_lenS (by simp only [go_sem]; first | rfl | assumption)) (by simp only [pt8, pt0, pt1, pt2, pt3, pt4, pt5, pt6, pt7]; rfl) ?_) | (refine WO.em2 rfl (by intro hp; simp only [hp, decide_true]; rfl) (by intro hp; simp only [hp, decide_false]; rfl) (fun hp => ?_) (fun hp => ?_) <;> try (exfalso; first | omega | contradiction)) | (refine WC.em2 rfl (fun hp => ?_) (fun hp => ?_) <;> try (exfalso; first | omega | contradiction)))
  refine WO.nil ?_
  refine WC.seq (WC.region ?_)
  simp only [z120]
  repeat' (first | (refine WO.yes rfl ?_) | (refine WO.noE rfl (by simp only [pt8, pt0, pt1, pt2, pt3, pt4, pt5, pt6, pt7]; rfl) ?_) | (refine WO.opE (by intro; simp (disch := omega) only [go_sem, zeros, Zz.cut, List.append_assoc, List.length_append, Nat.reduceAdd, Nat.reduceMul, Nat.reduceSub, Nat.reduceLeDiff, Nat.reduceEqDiff, Int.reduceNeg, Int.reduceAdd, Int.reduceToNat, reduceIte, reduceCtorEq]; rfl) (by simp only [pt8, pt0, pt1, pt2, pt3, pt4, pt5, pt6, pt7]; rfl) ?_) | (refine WO.opN (by intro; simp (disch := omega) only [go_sem, zeros, Zz.cut, List.append_assoc, List.length_append, Nat.reduceAdd, Nat.reduceMul, Nat.reduceSub, Nat.reduceLeDiff, Nat.reduceEqDiff, Int.reduceNeg, Int.reduceAdd, Int.reduceToNat, reduceIte, reduceCtorEq]; rfl) ?_) | (refine WO.opE (by intro; exact ev_lenS (by simp only [go_sem]; first | rfl | assumption)) (by simp only [pt8, pt0, pt1, pt2, pt3, pt4, pt5, pt6, pt7]; rfl) ?_) | (refine WC.seq ?_) | (refine WC.region ?_) | (refine WO.nil ?_) | (simp only [fl1, fl2, fl3, fl4, fl5, fl6, fl7, fl8, fl9, fl10, Nat.reduceBEq]) | (refine WC.calm rfl ?_) | (refine WC.drawT ?_) | (refine WC.yes rfl ?_) | (refine WC.no rfl ?_) | (refine WC.skip ?_) | (refine WC.exit ?_) | (refine WC.ret ?_) | (refine WC.block ?_) | (refine WO.em2 rfl (by intro hp; simp only [hp, decide_true]; rfl) (by intro hp; simp only [hp, decide_false]; rfl) (fun hp => ?_) (fun hp => ?_) <;> try (exfalso; first | omega | contradiction)) | (refine WC.em2 rfl (fun hp => ?_) (fun hp => ?_) <;> try (exfalso; first | omega | contradiction)))
  have e0 : ([some ⟨0, tab (kn 0)⟩] : Hp) = tblA (kn 0) ++ [] := rfl
  rw [e0]
  generalize hAA : tblA = A at *
  refine WC.loopI (fun m s => ∃ T i, s = ⟨T, A (kn i) ++ [], []⟩ ∧ T.length = 60 ∧ gt T 0 = .int .i64 n ∧ gt T 1 = l ∧ gt T 5 = .pref 0 0 0 ∧ gt T 10 = .int .i64 n ∧ gt T 11 = .int .i64 (i : Nat) ∧ (i : Int) ≤ n ∧ (m : Int) + i = n) ?_ n.toNat _ ⟨_, 0, rfl, rfl, rfl, rfl, rfl, rfl, rfl, by omega, by omega⟩
  rintro m _ ⟨T, i, rfl, hT, g0, g1, g5, g10, g11, hi, hm⟩
  obtain ⟨f, rfl⟩ := ex60 hT
  clear hT
  replace g0 : f 0 = .int .i64 n := g0
  replace g1 : f 1 = l := g1
  replace g5 : f 5 = .pref 0 0 0 := g5
  replace g10 : f 10 = .int .i64 n := g10
  replace g11 : f 11 = .int .i64 (i : Nat) := g11
  simp only [g0, g1, g5, g10, g11]
  repeat' (first | (refine WO.yes rfl ?_) | (refine WO.noE rfl (by simp only [pt8, pt0, pt1, pt2, pt3, pt4, pt5, pt6, pt7]; rfl) ?_) | (refine WO.opE (by intro; simp (disch := first | omega | (simp only [hA.len])) only [go_sem, zeros, Zz.cut, List.append_assoc, List.length_append, Nat.reduceAdd, Nat.reduceMul, Nat.reduceSub, Nat.reduceLeDiff, Nat.reduceEqDiff, Int.reduceNeg, Int.reduceAdd, Int.reduceToNat, reduceIte, reduceCtorEq, hA.len, hA.look, hA.set, tab_k, tab_f, tab_b, over_k, over_f, over_b, Nat.mul_one, z120]; rfl) (by simp only [pt8, pt0, pt1, pt2, pt3, pt4, pt5, pt6, pt7]; rfl) ?_) | (refine WO.opN (by intro; simp (disch := first | omega | (simp only [hA.len])) only [go_sem, zeros, Zz.cut, List.append_assoc, List.length_append, Nat.reduceAdd, Nat.reduceMul, Nat.reduceSub, Nat.reduceLeDiff, Nat.reduceEqDiff, Int.reduceNeg, Int.reduceAdd, Int.reduceToNat, reduceIte, reduceCtorEq, hA.len, hA.look, hA.set, tab_k, tab_f, tab_b, over_k, over_f, over_b, Nat.mul_one, z120]; rfl) ?_) | (refine WO.opE (by intro; exact ev_lenS (by simp only [go_sem]; first | rfl | assumption)) (by simp only [pt8, pt0, pt1, pt2, pt3, pt4, pt5, pt6, pt7]; rfl) ?_) | (refine WC.seq ?_) | (refine WC.region ?_) | (refine WO.nil ?_) | (simp only [fl1, fl2, fl3, fl4, fl5, fl6, fl7, fl8, fl9, fl10, Nat.reduceBEq]) | (refine WC.calm rfl ?_) | (refine WC.drawT ?_) | (refine WC.yes rfl ?_) | (refine WC.no rfl ?_) | (refine WC.skip ?_) | (refine WC.exit ?_) | (refine WC.ret ?_) | (refine WC.block ?_) | (refine WO.em2 rfl (by intro hp; simp only [hp, decide_true]; rfl) (by intro hp; simp only [hp, decide_false]; rfl) (fun hp => ?_) (fun hp => ?_) <;> try (exfalso; first | omega | contradiction)) | (refine WC.em2 rfl (fun hp => ?_) (fun hp => ?_) <;> try (exfalso; first | omega | contradiction)))
  · exact ⟨m - 1, by omega, _, i + 1, by rw [← kn_succ], rfl, rfl, rfl, rfl, rfl, rfl, by omega, by omega⟩
  have hin : i = n.toNat := by omega
  subst hin
  rw [List.append_nil]
  refine WO.call rfl rfl ((f36 hA hv hl (x := kn n.toNat) (kn_bnd _) (L := [])).mono ?_)
  rintro v m' ⟨r, R, L', hr, rfl, rfl, hcase⟩
  simp only [pt8, pt0, pt1, pt2, pt3, pt4, pt5, pt6, pt7]
  repeat' (first | (refine WO.yes rfl ?_) | (refine WO.noE rfl (by simp only [pt8, pt0, pt1, pt2, pt3, pt4, pt5, pt6, pt7]; rfl) ?_) | (refine WO.opE (by intro; simp (disch := first | omega | (simp only [hA.len])) only [go_sem, zeros, Zz.cut, List.append_assoc, List.length_append, Nat.reduceAdd, Nat.reduceMul, Nat.reduceSub, Nat.reduceLeDiff, Nat.reduceEqDiff, Int.reduceNeg, Int.reduceAdd, Int.reduceToNat, reduceIte, reduceCtorEq, hA.len, hA.look, hA.set, tab_k, tab_f, tab_b, over_k, over_f, over_b, Nat.mul_one, z120]; rfl) (by simp only [pt8, pt0, pt1, pt2, pt3, pt4, pt5, pt6, pt7]; rfl) ?_) | (refine WO.opN (by intro; simp (disch := first | omega | (simp only [hA.len])) only [go_sem, zeros, Zz.cut, List.append_assoc, List.length_append, Nat.reduceAdd, Nat.reduceMul, Nat.reduceSub, Nat.reduceLeDiff, Nat.reduceEqDiff, Int.reduceNeg, Int.reduceAdd, Int.reduceToNat, reduceIte, reduceCtorEq, hA.len, hA.look, hA.set, tab_k, tab_f, tab_b, over_k, over_f, over_b, Nat.mul_one, z120]; rfl) ?_) | (refine WO.opE (by intro; exact ev_lenS (by simp only [go_sem]; first | rfl | assumption)) (by simp only [pt8, pt0, pt1, pt2, pt3, pt4, pt5, pt6, pt7]; rfl) ?_) | (refine WC.seq ?_) | (refine WC.region ?_) | (refine WO.nil ?_) | (simp only [fl1, fl2, fl3, fl4, fl5, fl6, fl7, fl8, fl9, fl10, Nat.reduceBEq]) | (refine WC.calm rfl ?_) | (refine WC.drawT ?_) | (refine WC.yes rfl ?_) | (refine WC.no rfl ?_) | (refine WC.skip ?_) | (refine WC.exit ?_) | (refine WC.ret ?_) | (refine WC.block ?_) | (refine WO.em2 rfl (by intro hp; simp only [hp, decide_true]; rfl) (by intro hp; simp only [hp, decide_false]; rfl) (fun hp => ?_) (fun hp => ?_) <;> try (exfalso; first | omega | contradiction)) | (refine WC.em2 rfl (fun hp => ?_) (fun hp => ?_) <;> try (exfalso; first | omega | contradiction)))
  · exact ⟨_, rfl, .inl ⟨rfl, _, pot_of hv (settled hv _ hp)⟩⟩
  have hr' : (r : Int) = n + 1 := by
    rcases hcase with h | h
    · exact absurd h hp
    · exact h
  obtain ⟨v, bk, q, hv0, hb0, ht⟩ := trail_of hv (x := kn n.toNat) hp (by omega)
  rw [hv0, ← hb0]
  generalize hX : (rd rs (kn n.toNat) (r + 1)).1 = X at *
  have hbk : ∀ i, bk i < 40 := fun i => by have := ht.lt i; omega
  refine WC.loopI (fun m s => ∃ T i, s = ⟨T, A X ++ R, L'⟩ ∧ T.length = 60 ∧ gt T 0 = .int .i64 n ∧ gt T 1 = l ∧ gt T 5 = .pref 0 0 0 ∧ gt T 7 = .int .i64 (bk i : Nat) ∧ gt T 23 = .int .i64 n ∧ gt T 24 = .int .i64 (i : Nat) ∧ (i : Int) ≤ n ∧ (m : Int) + i = n) ?_ n.toNat _ ⟨_, 0, rfl, rfl, rfl, rfl, rfl, rfl, rfl, rfl, by omega, by omega⟩
  clear f g0 g1 g5 g10 g11 hm m
  rintro m _ ⟨T, i, rfl, hT, g0, g1, g5, g7, g23, g24, hi2, hm⟩
  obtain ⟨f, rfl⟩ := ex60 hT
  clear hT
  replace g0 : f 0 = .int .i64 n := g0
  replace g1 : f 1 = l := g1
  replace g5 : f 5 = .pref 0 0 0 := g5
  replace g7 : f 7 = .int .i64 (bk i : Nat) := g7
  replace g23 : f 23 = .int .i64 n := g23
  replace g24 : f 24 = .int .i64 (i : Nat) := g24
  simp only [g0, g1, g5, g7, g23, g24]
  have hbi := hbk i
  repeat' (first | (refine WO.yes rfl ?_) | (refine WO.noE rfl (by simp only [pt8, pt0, pt1, pt2, pt3, pt4, pt5, pt6, pt7]; rfl) ?_) | (refine WO.opE (by intro; simp (disch := first | omega | (simp only [hA.len])) only [go_sem, zeros, Zz.cut, List.append_assoc, List.length_append, Nat.reduceAdd, Nat.reduceMul, Nat.reduceSub, Nat.reduceLeDiff, Nat.reduceEqDiff, Int.reduceNeg, Int.reduceAdd, Int.reduceToNat, reduceIte, reduceCtorEq, hA.len, hA.look, hA.set, tab_k, tab_f, tab_b, over_k, over_f, over_b, Nat.mul_one, z120, ht.beg]; rfl) (by simp only [pt8, pt0, pt1, pt2, pt3, pt4, pt5, pt6, pt7]; rfl) ?_) | (refine WO.opN (by intro; simp (disch := first | omega | (simp only [hA.len])) only [go_sem, zeros, Zz.cut, List.append_assoc, List.length_append, Nat.reduceAdd, Nat.reduceMul, Nat.reduceSub, Nat.reduceLeDiff, Nat.reduceEqDiff, Int.reduceNeg, Int.reduceAdd, Int.reduceToNat, reduceIte, reduceCtorEq, hA.len, hA.look, hA.set, tab_k, tab_f, tab_b, over_k, over_f, over_b, Nat.mul_one, z120, ht.beg]; rfl) ?_) | (refine WO.opE (by intro; exact ev_lenS (by simp only [go_sem]; first | rfl | assumption)) (by simp only [pt8, pt0, pt1, pt2, pt3, pt4, pt5, pt6, pt7]; rfl) ?_) | (refine WO.specE rfl rfl (s35 hv hl (ht.num _)) (by simp only [pt8, pt0, pt1, pt2, pt3, pt4, pt5, pt6, pt7]; rfl) ?_) | (refine WC.seq ?_) | (refine WC.region ?_) | (refine WO.nil ?_) | (simp only [fl1, fl2, fl3, fl4, fl5, fl6, fl7, fl8, fl9, fl10, Nat.reduceBEq]) | (refine WC.calm rfl ?_) | (refine WC.drawT ?_) | (refine WC.yes rfl ?_) | (refine WC.no rfl ?_) | (refine WC.skip ?_) | (refine WC.exit ?_) | (refine WC.ret ?_) | (refine WC.block ?_) | (refine WO.em2 rfl (by intro hp; simp only [hp, decide_true]; rfl) (by intro hp; simp only [hp, decide_false]; rfl) (fun hp => ?_) (fun hp => ?_) <;> try (exfalso; first | omega | contradiction)) | (refine WC.em2 rfl (fun hp => ?_) (fun hp => ?_) <;> try (exfalso; first | omega | contradiction)))
  · exact ⟨m - 1, by omega, _, i + 1, rfl, rfl, rfl, rfl, rfl, rfl, rfl, rfl, by omega, by omega⟩
  have hin : i = n.toNat := by omega
  subst hin
  have hbn := hbk n.toNat
  refine WC.loop ?_
  repeat' (first | (refine WO.yes rfl ?_) | (refine WO.noE rfl (by simp only [pt8, pt0, pt1, pt2, pt3, pt4, pt5, pt6, pt7]; rfl) ?_) | (refine WO.opE (by intro; simp (disch := first | omega | (simp only [hA.len])) only [go_sem, zeros, Zz.cut, List.append_assoc, List.length_append, Nat.reduceAdd, Nat.reduceMul, Nat.reduceSub, Nat.reduceLeDiff, Nat.reduceEqDiff, Int.reduceNeg, Int.reduceAdd, Int.reduceToNat, reduceIte, reduceCtorEq, hA.len, hA.look, hA.set, tab_k, tab_f, tab_b, over_k, over_f, over_b, Nat.mul_one, z120]; rfl) (by simp only [pt8, pt0, pt1, pt2, pt3, pt4, pt5, pt6, pt7]; rfl) ?_) | (refine WO.opN (by intro; simp (disch := first | omega | (simp only [hA.len])) only [go_sem, zeros, Zz.cut, List.append_assoc, List.length_append, Nat.reduceAdd, Nat.reduceMul, Nat.reduceSub, Nat.reduceLeDiff, Nat.reduceEqDiff, Int.reduceNeg, Int.reduceAdd, Int.reduceToNat, reduceIte, reduceCtorEq, hA.len, hA.look, hA.set, tab_k, tab_f, tab_b, over_k, over_f, over_b, Nat.mul_one, z120]; rfl) ?_) | (refine WO.opE (by intro; exact ev_lenS (by simp only [go_sem]; first | rfl | assumption)) (by simp only [pt8, pt0, pt1, pt2, pt3, pt4, pt5, pt6, pt7]; rfl) ?_) | (refine WO.opE (by intro; exact ev_lenS (by simp only [go_sem]; exact rfl)) (by simp only [pt8, pt0, pt1, pt2, pt3, pt4, pt5, pt6, pt7]; rfl) ?_) | (refine WC.seq ?_) | (refine WC.region ?_) | (refine WO.nil ?_) | (simp only [fl1, fl2, fl3, fl4, fl5, fl6, fl7, fl8, fl9, fl10, Nat.reduceBEq]) | (refine WC.calm rfl ?_) | (refine WC.drawT ?_) | (refine WC.yes rfl ?_) | (refine WC.no rfl ?_) | (refine WC.skip ?_) | (refine WC.exit ?_) | (refine WC.ret ?_) | (refine WC.block ?_) | (refine WO.em2 rfl (by intro hp; simp only [hp, decide_true]; rfl) (by intro hp; simp only [hp, decide_false]; rfl) (fun hp => ?_) (fun hp => ?_) <;> try (exfalso; first | omega | contradiction)) | (refine WC.em2 rfl (fun hp => ?_) (fun hp => ?_) <;> try (exfalso; first | omega | contradiction)))
  refine WO.opE (by intro; rw [ev_append]; exact append_nil (n := 1) (lkr00 (hA.len _)) Nat.one_pos rfl ⟨by omega, by omega⟩) (by simp only [pt8, pt0, pt1, pt2, pt3, pt4, pt5, pt6, pt7]; rfl) ?_
  repeat' (first | (refine WO.yes rfl ?_) | (refine WO.noE rfl (by simp only [pt8, pt0, pt1, pt2, pt3, pt4, pt5, pt6, pt7]; rfl) ?_) | (refine WO.opE (by intro; simp (disch := first | omega | (simp only [hA.len])) only [go_sem, zeros, Zz.cut, List.append_assoc, List.length_append, Nat.reduceAdd, Nat.reduceMul, Nat.reduceSub, Nat.reduceLeDiff, Nat.reduceEqDiff, Int.reduceNeg, Int.reduceAdd, Int.reduceToNat, reduceIte, reduceCtorEq, hA.len, hA.look, hA.set, tab_k, tab_f, tab_b, over_k, over_f, over_b, Nat.mul_one, z120, ht.beg]; rfl) (by simp only [pt8, pt0, pt1, pt2, pt3, pt4, pt5, pt6, pt7]; rfl) ?_) | (refine WO.opN (by intro; simp (disch := first | omega | (simp only [hA.len])) only [go_sem, zeros, Zz.cut, List.append_assoc, List.length_append, Nat.reduceAdd, Nat.reduceMul, Nat.reduceSub, Nat.reduceLeDiff, Nat.reduceEqDiff, Int.reduceNeg, Int.reduceAdd, Int.reduceToNat, reduceIte, reduceCtorEq, hA.len, hA.look, hA.set, tab_k, tab_f, tab_b, over_k, over_f, over_b, Nat.mul_one, z120, ht.beg]; rfl) ?_) | (refine WO.opE (by intro; exact ev_lenS (by simp only [go_sem]; first | rfl | assumption)) (by simp only [pt8, pt0, pt1, pt2, pt3, pt4, pt5, pt6, pt7]; rfl) ?_) | (refine WO.specE rfl rfl (s35 hv hl (ht.num _)) (by simp only [pt8, pt0, pt1, pt2, pt3, pt4, pt5, pt6, pt7]; rfl) ?_) | (refine WC.seq ?_) | (refine WC.region ?_) | (refine WO.nil ?_) | (simp only [fl1, fl2, fl3, fl4, fl5, fl6, fl7, fl8, fl9, fl10, Nat.reduceBEq]) | (refine WC.calm rfl ?_) | (refine WC.drawT ?_) | (refine WC.yes rfl ?_) | (refine WC.no rfl ?_) | (refine WC.skip ?_) | (refine WC.exit ?_) | (refine WC.ret ?_) | (refine WC.block ?_) | (refine WO.em2 rfl (by intro hp; simp only [hp, decide_true]; rfl) (by intro hp; simp only [hp, decide_false]; rfl) (fun hp => ?_) (fun hp => ?_) <;> try (exfalso; first | omega | contradiction)) | (refine WC.em2 rfl (fun hp => ?_) (fun hp => ?_) <;> try (exfalso; first | omega | contradiction)))
  have eh : ∀ (b0 b1 : Option Blk), R ++ [b0, b1] = (R ++ [b0]) ++ [b1] := fun _ _ => by simp
  rw [eh]
  refine WC.loopI (fun m s => ∃ T R1 R2 g c, s = ⟨T, A X ++ (R1 ++ some ⟨g, (found X bk n.toNat c).map (.int .i64)⟩ :: R2), L'⟩ ∧ T.length = 60 ∧ gt T 1 = l ∧ gt T 5 = .pref 0 0 0 ∧ gt T 7 = .int .i64 (bk n.toNat : Nat) ∧ gt T 8 = .sref (1 + R1.length) g 0 1 c none ∧ gt T 9 = .int .i64 (bk (n.toNat + c) : Nat) ∧ 0 < c ∧ c ≤ q ∧ m + c = q) ?_ (q - 1) _ ⟨_, R ++ [_], [], 0, 1, rfl, rfl, rfl, rfl, rfl, by simp [gt8, gt0], rfl, Nat.one_pos, ht.pos, by have := ht.pos; omega⟩
  clear f g0 g1 g5 g7 g23 g24 hm m hp hbi hbn
  rintro m _ ⟨T, R1, R2, g, c, rfl, hT, g1, g5, g7, g8, g9, hc0, hcq, hm⟩
  obtain ⟨f, rfl⟩ := ex60 hT
  clear hT
  replace g1 : f 1 = l := g1
  replace g5 : f 5 = .pref 0 0 0 := g5
  replace g7 : f 7 = .int .i64 (bk n.toNat : Nat) := g7
  replace g8 : f 8 = .sref (1 + R1.length) g 0 1 c none := g8
  replace g9 : f 9 = .int .i64 (bk (n.toNat + c) : Nat) := g9
  simp only [g1, g5, g7, g8, g9]
  have hbi := hbk (n.toNat + c)
  have hqn := ht.le
  repeat' (first | (refine WO.yes rfl ?_) | (refine WO.noE rfl (by simp only [pt8, pt0, pt1, pt2, pt3, pt4, pt5, pt6, pt7]; rfl) ?_) | (refine WO.opE (by intro; simp (disch := first | omega | (simp only [hA.len])) only [go_sem, zeros, Zz.cut, List.append_assoc, List.length_append, Nat.reduceAdd, Nat.reduceMul, Nat.reduceSub, Nat.reduceLeDiff, Nat.reduceEqDiff, Int.reduceNeg, Int.reduceAdd, Int.reduceToNat, reduceIte, reduceCtorEq, hA.len, hA.look, hA.set, tab_k, tab_f, tab_b, over_k, over_f, over_b, Nat.mul_one, z120, ht.beg]; rfl) (by simp only [pt8, pt0, pt1, pt2, pt3, pt4, pt5, pt6, pt7]; rfl) ?_) | (refine WO.opN (by intro; simp (disch := first | omega | (simp only [hA.len])) only [go_sem, zeros, Zz.cut, List.append_assoc, List.length_append, Nat.reduceAdd, Nat.reduceMul, Nat.reduceSub, Nat.reduceLeDiff, Nat.reduceEqDiff, Int.reduceNeg, Int.reduceAdd, Int.reduceToNat, reduceIte, reduceCtorEq, hA.len, hA.look, hA.set, tab_k, tab_f, tab_b, over_k, over_f, over_b, Nat.mul_one, z120, ht.beg]; rfl) ?_) | (refine WO.opE (by intro; exact ev_lenS (by simp only [go_sem]; first | rfl | assumption)) (by simp only [pt8, pt0, pt1, pt2, pt3, pt4, pt5, pt6, pt7]; rfl) ?_) | (refine WO.opE (by intro; exact ev_lenS (by simp only [go_sem]; exact rfl)) (by simp only [pt8, pt0, pt1, pt2, pt3, pt4, pt5, pt6, pt7]; rfl) ?_) | (refine WC.seq ?_) | (refine WC.region ?_) | (refine WO.nil ?_) | (simp only [fl1, fl2, fl3, fl4, fl5, fl6, fl7, fl8, fl9, fl10, Nat.reduceBEq]) | (refine WC.calm rfl ?_) | (refine WC.drawT ?_) | (refine WC.yes rfl ?_) | (refine WC.no rfl ?_) | (refine WC.skip ?_) | (refine WC.exit ?_) | (refine WC.ret ?_) | (refine WC.block ?_) | (refine WO.em2 rfl (by intro hp; simp only [hp, decide_true]; rfl) (by intro hp; simp only [hp, decide_false]; rfl) (fun hp => ?_) (fun hp => ?_) <;> try (exfalso; first | omega | contradiction)) | (refine WC.em2 rfl (fun hp => ?_) (fun hp => ?_) <;> try (exfalso; first | omega | contradiction)))
  · have hcq' : c < q := by
      refine Nat.lt_of_le_of_ne hcq fun e => hp ?_
      rw [e, ht.cyc]
    refine WO.opE (by intro; rw [ev_append]; exact append_more (n := 1) (lkr00 (hA.len _)) (lkr0r (hA.len _)) Nat.one_pos Nat.one_pos rfl (by simp [found_len]) ⟨by omega, by omega⟩) (by simp only [pt8, pt0, pt1, pt2, pt3, pt4, pt5, pt6, pt7]; rfl) ?_
    rw [str00 (hA.len _)]
    have ef : (found X bk n.toNat c).map (AV.int .i64) ++ [.int .i64 (X.by_ (bk (n.toNat + c)))] = (found X bk n.toNat (c + 1)).map (.int .i64) := by rw [found_succ]; simp
    rw [ef]
    repeat' (first | (refine WO.yes rfl ?_) | (refine WO.noE rfl (by simp only [pt8, pt0, pt1, pt2, pt3, pt4, pt5, pt6, pt7]; rfl) ?_) | (refine WO.opE (by intro; simp (disch := first | omega | (simp only [hA.len])) only [go_sem, zeros, Zz.cut, List.append_assoc, List.length_append, Nat.reduceAdd, Nat.reduceMul, Nat.reduceSub, Nat.reduceLeDiff, Nat.reduceEqDiff, Int.reduceNeg, Int.reduceAdd, Int.reduceToNat, reduceIte, reduceCtorEq, hA.len, hA.look, hA.set, tab_k, tab_f, tab_b, over_k, over_f, over_b, Nat.mul_one, z120, ht.beg]; rfl) (by simp only [pt8, pt0, pt1, pt2, pt3, pt4, pt5, pt6, pt7]; rfl) ?_) | (refine WO.opN (by intro; simp (disch := first | omega | (simp only [hA.len])) only [go_sem, zeros, Zz.cut, List.append_assoc, List.length_append, Nat.reduceAdd, Nat.reduceMul, Nat.reduceSub, Nat.reduceLeDiff, Nat.reduceEqDiff, Int.reduceNeg, Int.reduceAdd, Int.reduceToNat, reduceIte, reduceCtorEq, hA.len, hA.look, hA.set, tab_k, tab_f, tab_b, over_k, over_f, over_b, Nat.mul_one, z120, ht.beg]; rfl) ?_) | (refine WO.opE (by intro; exact ev_lenS (by simp only [go_sem]; first | rfl | assumption)) (by simp only [pt8, pt0, pt1, pt2, pt3, pt4, pt5, pt6, pt7]; rfl) ?_) | (refine WO.specE rfl rfl (s35 hv hl (ht.num _)) (by simp only [pt8, pt0, pt1, pt2, pt3, pt4, pt5, pt6, pt7]; rfl) ?_) | (refine WC.seq ?_) | (refine WC.region ?_) | (refine WO.nil ?_) | (simp only [fl1, fl2, fl3, fl4, fl5, fl6, fl7, fl8, fl9, fl10, Nat.reduceBEq]) | (refine WC.calm rfl ?_) | (refine WC.drawT ?_) | (refine WC.yes rfl ?_) | (refine WC.no rfl ?_) | (refine WC.skip ?_) | (refine WC.exit ?_) | (refine WC.ret ?_) | (refine WC.block ?_) | (refine WO.em2 rfl (by intro hp; simp only [hp, decide_true]; rfl) (by intro hp; simp only [hp, decide_false]; rfl) (fun hp => ?_) (fun hp => ?_) <;> try (exfalso; first | omega | contradiction)) | (refine WC.em2 rfl (fun hp => ?_) (fun hp => ?_) <;> try (exfalso; first | omega | contradiction)))
    exact ⟨m - 1, by omega, _, _, _, _, c + 1, rfl, rfl, rfl, rfl, rfl, rfl, rfl, by omega, by omega, by omega⟩
  · have hcq' : c = q := by
      refine Decidable.of_not_not fun e => ht.first c hc0 (by omega) ?_
      omega
    subst hcq'
    have hrev := f37 (Γ := E9) rfl (fn_of Try.func37 cir37) (q := 1 + R1.length) (g := g) (A := fun ch => A X ++ (R1 ++ some ⟨g, ch.map (.int .i64)⟩ :: R2)) (fun _ => lkr00 (hA.len _)) (fun _ _ => str00 (hA.len _)) (c0 := found X bk n.toNat c) (by rw [found_len]; exact hc0) (by rw [found_len]; omega) (L := L')
    rw [found_len] at hrev
    refine WO.call rfl rfl (hrev.mono ?_)
    rintro v m' rfl
    simp only [pt8, pt0, pt1, pt2, pt3, pt4, pt5, pt6, pt7]
    repeat' (first | (refine WO.yes rfl ?_) | (refine WO.noE rfl (by simp only [pt8, pt0, pt1, pt2, pt3, pt4, pt5, pt6, pt7]; rfl) ?_) | (refine WO.opE (by intro; simp (disch := first | omega | (simp only [hA.len])) only [go_sem, zeros, Zz.cut, List.append_assoc, List.length_append, Nat.reduceAdd, Nat.reduceMul, Nat.reduceSub, Nat.reduceLeDiff, Nat.reduceEqDiff, Int.reduceNeg, Int.reduceAdd, Int.reduceToNat, reduceIte, reduceCtorEq, hA.len, hA.look, hA.set, tab_k, tab_f, tab_b, over_k, over_f, over_b, Nat.mul_one, z120]; rfl) (by simp only [pt8, pt0, pt1, pt2, pt3, pt4, pt5, pt6, pt7]; rfl) ?_) | (refine WO.opN (by intro; simp (disch := first | omega | (simp only [hA.len])) only [go_sem, zeros, Zz.cut, List.append_assoc, List.length_append, Nat.reduceAdd, Nat.reduceMul, Nat.reduceSub, Nat.reduceLeDiff, Nat.reduceEqDiff, Int.reduceNeg, Int.reduceAdd, Int.reduceToNat, reduceIte, reduceCtorEq, hA.len, hA.look, hA.set, tab_k, tab_f, tab_b, over_k, over_f, over_b, Nat.mul_one, z120]; rfl) ?_) | (refine WO.opE (by intro; exact ev_lenS (by simp only [go_sem]; first | rfl | assumption)) (by simp only [pt8, pt0, pt1, pt2, pt3, pt4, pt5, pt6, pt7]; rfl) ?_) | (refine WC.seq ?_) | (refine WC.region ?_) | (refine WO.nil ?_) | (simp only [fl1, fl2, fl3, fl4, fl5, fl6, fl7, fl8, fl9, fl10, Nat.reduceBEq]) | (refine WC.calm rfl ?_) | (refine WC.drawT ?_) | (refine WC.yes rfl ?_) | (refine WC.no rfl ?_) | (refine WC.skip ?_) | (refine WC.exit ?_) | (refine WC.ret ?_) | (refine WC.block ?_) | (refine WO.em2 rfl (by intro hp; simp only [hp, decide_true]; rfl) (by intro hp; simp only [hp, decide_false]; rfl) (fun hp => ?_) (fun hp => ?_) <;> try (exfalso; first | omega | contradiction)) | (refine WC.em2 rfl (fun hp => ?_) (fun hp => ?_) <;> try (exfalso; first | omega | contradiction)))
    have hlr : (found X bk n.toNat c).reverse.length = c := by rw [List.length_reverse, found_len]
    exact ⟨_, rfl, .inr ⟨_, 1 + R1.length, g, contra_of hv ht, by rw [hlr]; rfl, lkr00 (A := A X) (R := R1) (l := R2) (g := g) (c := (found X bk n.toNat c).reverse.map (.int .i64)) (hA.len X)⟩⟩
end Go.Proofs.Ytndaljjljmmlcaa


set_option linter.unusedSimpArgs false
set_option linter.unusedVariables false
namespace Go.Proofs.Ytndaljjljmmlcaa
open Go.Zz

/-! ### Distances from an item -/

structure Sol (rs : List Rg) (i : Nat) (K : Nat → Bool) (d : Nat → Int) : Prop where
  self : K i = true
  zero : d i = 0
  closed : ∀ s, Num rs s → K (eOf rs s).a = true → K (eOf rs s).b = true ∧ d (eOf rs s).b ≤ d (eOf rs s).a + (eOf rs s).w
  best : ∀ (C : Nat → Prop) (p : Nat → Int), C i → (∀ s, Num rs s → C (eOf rs s).a → C (eOf rs s).b ∧ p (eOf rs s).b ≤ p (eOf rs s).a + (eOf rs s).w) → ∀ v, K v = true → C v ∧ p v - p i ≤ d v

theorem Sol.le {rs : List Rg} {i : Nat} {K K' : Nat → Bool} {d d' : Nat → Int} (h : Sol rs i K d) (h' : Sol rs i K' d') (v : Nat) (hv : K v = true) : K' v = true ∧ d' v ≤ d v := by
  obtain ⟨a, b⟩ := h.best (fun v => K' v = true) d' h'.self (fun s hs ha => h'.closed s hs ha) v hv
  have := h'.zero
  exact ⟨a, by omega⟩
theorem Sol.eq {rs : List Rg} {i : Nat} {K K' : Nat → Bool} {d d' : Nat → Int} (h : Sol rs i K d) (h' : Sol rs i K' d') (v : Nat) : K v = K' v ∧ (K v = true → d v = d' v) := by
  have key : K v = K' v := by
    cases hk : K v with
    | true => exact (h.le h' v hk).1.symm
    | false =>
      cases hk' : K' v with
      | false => rfl
      | true =>
        have := (h'.le h v hk').1
        rw [hk] at this; cases this
  refine ⟨key, fun hk => ?_⟩
  have a := (h.le h' v hk).2
  have b := (h'.le h v (by rw [← key]; exact hk)).2
  omega
theorem Sol.pot {rs : List Rg} {i : Nat} {K : Nat → Bool} {d p : Nat → Int} (h : Sol rs i K d) (hp : Pot rs p) (v : Nat) (hk : K v = true) : p v - p i ≤ d v :=
  (h.best (fun _ => True) p trivial (fun s hs _ => ⟨trivial, hp s hs⟩) v hk).2

/-- Known items, below n. -/
theorem Sol.lt {n : Int} {rs : List Rg} (hv : VL n rs) {i : Nat} (hi : (i : Int) < n) {K : Nat → Bool} {d : Nat → Int} (h : Sol rs i K d) (v : Nat) (hk : K v = true) : (v : Int) < n := by
  have hb : ∀ s, Num rs s → ((eOf rs s).b : Int) < n := fun s hs => by
    obtain ⟨a1, a2, a3, a4, a5, a6, a7⟩ := okNum hv hs
    simp only [eOf]
    omega
  exact (h.best (fun v => K v = true ∧ (v : Int) < n) d ⟨h.self, hi⟩ (fun s hs ha => ⟨⟨(h.closed s hs ha.1).1, hb s hs⟩, (h.closed s hs ha.1).2⟩) v hk).1.2

theorem list_ind {rs : List Rg} {q : Int → Int} : ∀ (ch : List Int) (k : Nat), k ≤ ch.length → (∀ j, j + 1 < ch.length → q (stA rs (ch.getD (j + 1) 0)) ≤ q (stA rs (ch.getD j 0)) + stW rs (ch.getD j 0)) → 0 < k → q (stA rs (ch.getD (k - 1) 0)) ≤ q (stA rs (ch.getD 0 0)) + ((ch.take (k - 1)).map (stW rs)).sum
  | ch, 0, _, _, h => absurd h (by omega)
  | ch, 1, _, _, _ => by simp
  | ch, k + 2, hk, h, _ => by
    have ih := list_ind ch (k + 1) (by omega) h (by omega)
    have h2 := h k (by omega)
    have e : ch.take (k + 1) = ch.take k ++ [ch.getD k 0] := by
      rw [List.take_add_one, List.getD_eq_getElem?_getD, List.getElem?_eq_getElem (by omega)]
      rfl
    simp only [Nat.add_sub_cancel, show k + 2 - 1 = k + 1 by omega] at ih ⊢
    rw [e, List.map_append, List.sum_append]
    simp only [List.map_cons, List.map_nil, List.sum_cons, List.sum_nil]
    omega

theorem Contra.no {n : Int} {rs : List Rg} (hv : VL n rs) {ch : List Int} (h : Contra rs ch) {p : Nat → Int} (hp : Pot rs p) : False := by
  have hpos := List.length_pos_iff.2 h.ne
  have hg : ∀ j, j < ch.length → Num rs (ch.getD j 0) := fun j hj => h.num _ (by
    rw [List.getD_eq_getElem?_getD, List.getElem?_eq_getElem hj]
    exact List.getElem_mem hj)
  have key : ∀ j, j < ch.length → p (stB rs (ch.getD j 0)).toNat ≤ p (stA rs (ch.getD j 0)).toNat + stW rs (ch.getD j 0) := fun j hj => hp _ (hg j hj)
  have h1 := list_ind (rs := rs) (q := fun x => p x.toNat) ch ch.length (Nat.le_refl _) (fun j hj => by
    have a := key j (by omega)
    have b := h.link j (by omega)
    rw [Nat.mod_eq_of_lt hj] at b
    rw [b] at a
    exact a) hpos
  have h2 := key (ch.length - 1) (by omega)
  have h3 := h.link (ch.length - 1) (by omega)
  rw [show ch.length - 1 + 1 = ch.length by omega, Nat.mod_self] at h3
  rw [h3] at h2
  have e : ch = ch.take (ch.length - 1) ++ [ch.getD (ch.length - 1) 0] := by
    conv => lhs; rw [← List.take_length (l := ch), show ch.length = ch.length - 1 + 1 by omega, List.take_add_one]
    rw [List.getD_eq_getElem?_getD, List.getElem?_eq_getElem (by omega)]
    rfl
  have h4 := h.neg
  rw [e, List.map_append, List.sum_append] at h4
  simp only [List.map_cons, List.map_nil, List.sum_cons, List.sum_nil] at h4
  omega

def one (i : Nat) : Bf.S := ⟨Bf.upd (kn 0).known i true, fun _ => 0, fun _ => 0⟩
theorem one_known {i v : Nat} : (one i).known v = true ↔ v = i := by
  simp [one, Bf.upd, kn]
theorem one_bnd (i : Nat) : Bnd 0 (one i) := fun v => by simp [one]

theorem run_best {rs : List Rg} {E : Nat → Bf.Edge} {i : Nat} {C : Nat → Prop} {p : Nat → Int} (hC : C i) (hp : ∀ s, Num rs s → C (eOf rs s).a → C (eOf rs s).b ∧ p (eOf rs s).b ≤ p (eOf rs s).a + (eOf rs s).w) :
    ∀ t, (∀ k, k < t → ∃ s, Num rs s ∧ E k = eOf rs s) → ∀ v, (Bf.run E (one i) t).known v = true → C v ∧ p v - p i ≤ (Bf.run E (one i) t).far v
  | 0, _, v, hv => by
    have := one_known.1 hv
    subst this
    exact ⟨hC, by simp [Bf.run, one]⟩
  | t + 1, hE, v, hv => by
    have ih := run_best hC hp t fun k hk => hE k (by omega)
    rcases Bf.one_step (E := E) (x := one i) t v with ⟨h1, h2, h3, h4⟩ | ⟨h1, h2, h3, h4, h5, h6⟩
    · rw [h2] at hv
      rw [h3]
      exact ih v hv
    · obtain ⟨s, hs, e⟩ := hE t (by omega)
      obtain ⟨c1, c2⟩ := ih _ (Bf.fires_known h1)
      rw [e] at c1 c2 h2 h5
      obtain ⟨d1, d2⟩ := hp s hs c1
      rw [h5]
      subst h2
      exact ⟨d1, by omega⟩

theorem sol_of_run {rs : List Rg} {E : Nat → Bf.Edge} {i t : Nat} (hE : ∀ k, k < t → ∃ s, Num rs s ∧ E k = eOf rs s) (hf : Fixed rs (Bf.run E (one i) t)) {p : Nat → Int} (hp : Pot rs p) : Sol rs i (Bf.run E (one i) t).known (Bf.run E (one i) t).far := by
  have hself : (Bf.run E (one i) t).known i = true := Bf.known_mono (t := 0) (Nat.zero_le _) (one_known.2 rfl)
  refine ⟨hself, ?_, fun s hs ha => ?_, fun C q hC hq => run_best hC hq t hE⟩
  · have h1 := (run_best (rs := rs) (E := E) (i := i) (C := fun _ => True) (p := p) trivial (fun s hs _ => ⟨trivial, hp s hs⟩) t hE i hself).2
    have h2 := Bf.far_mono (E := E) (x := one i) (t := 0) (t' := t) (v := i) (Nat.zero_le _) (one_known.2 rfl)
    have h3 : (Bf.run E (one i) 0).far i = 0 := rfl
    omega
  · have hf := hf s hs
    simp only [Bf.fires, ha, Bool.true_and, Bool.or_eq_false_iff, Bool.not_eq_false', decide_eq_false_iff_not] at hf
    exact ⟨hf.1, by omega⟩

/-- What from finds. -/
theorem sol_from {n : Int} {rs : List Rg} (hv : VL n rs) {i r : Nat} {p : Nat → Int} (hp : Pot rs p) (h : (rd rs (one i) (r + 1)).2 < 0) : Sol rs i (rd rs (one i) (r + 1)).1.known (rd rs (one i) (r + 1)).1.far := by
  have hf := settled hv (one i) h
  rw [rd_run] at hf ⊢
  refine sol_of_run (fun k hk => ?_) hf hp
  by_cases he : rs = []
  · subst he; simp at hk
  · exact Er_num he k

/-- Lists of steps in rounds: after as many rounds as there are items nothing is lowered any more, if sizes agree. -/
theorem rounds_done {E : Nat → Bf.Edge} {L n : Nat} {x : Bf.S} (ho : Bf.Ok E L n) {p : Nat → Int} (hp : Bf.Pot E p) : ∀ t, Bf.fires (Bf.run E x (n * L)) (E t) = false := by
  refine (Bf.still (E := E) (x := x) (L := L) (t0 := n * L) (fun k hk => ?_) ho.per ho.pos).2
  cases hf : Bf.fires (Bf.run E x (n * L + k)) (E (n * L + k)) with
  | false => rfl
  | true =>
    have h1 := Bf.tm_yes hf
    have h2 := Bf.no_late (x := x) ho hp (n * L + k + 1) (E (n * L + k)).b
    omega
end Go.Proofs.Ytndaljjljmmlcaa

