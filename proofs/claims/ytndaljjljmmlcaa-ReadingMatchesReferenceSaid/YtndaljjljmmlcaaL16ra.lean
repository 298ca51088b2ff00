import Derived.Test.YtndaljjljmmlcaaIr16r
import Derived.Test.YtndaljjljmmlcaaL16H

set_option linter.unusedSimpArgs false
set_option linter.unusedVariables false
namespace Go.Proofs.Ytndaljjljmmlcaa
open Go.Zz
set_option maxRecDepth 100000
set_option maxHeartbeats 1000000
/-! ### The reference's rounds -/

def numR (len k : Nat) : Int := if k < len then (k : Int) - len else (k : Int) - len + 1
def Erf (rs : List Rg) (t : Nat) : Bf.Edge := eOf rs (numR rs.length (t % (2 * rs.length)))
theorem num_R {rs : List Rg} {k : Nat} (h : k < 2 * rs.length) : Num rs (numR rs.length k) := by
  unfold Num numR
  split <;> omega
theorem Erf_per (rs : List Rg) (t : Nat) : Erf rs (t + 2 * rs.length) = Erf rs t := by
  unfold Erf
  rw [Nat.add_mod_right]
theorem Erf_num {rs : List Rg} (h : rs ≠ []) (t : Nat) : ∃ s, Num rs s ∧ Erf rs t = eOf rs s := by
  have := List.length_pos_iff.2 h
  exact ⟨_, num_R (Nat.mod_lt _ (by omega)), rfl⟩
theorem num_Erf {rs : List Rg} {s : Int} (h : Num rs s) : ∃ t, Erf rs t = eOf rs s := by
  obtain ⟨h0, h1, h2⟩ := h
  by_cases hs : 0 < s
  · refine ⟨(s + rs.length - 1).toNat, ?_⟩
    unfold Erf
    rw [Nat.mod_eq_of_lt (by omega)]
    congr 1
    unfold numR
    rw [if_neg (by omega)]
    omega
  · refine ⟨(s + rs.length).toNat, ?_⟩
    unfold Erf
    rw [Nat.mod_eq_of_lt (by omega)]
    congr 1
    unfold numR
    rw [if_pos (by omega)]
    omega
theorem Erf_ok {n : Int} {rs : List Rg} (hv : VL n rs) (h : rs ≠ []) : Bf.Ok (Erf rs) (2 * rs.length) n.toNat := by
  have hp := List.length_pos_iff.2 h
  refine ⟨fun t => ?_, Erf_per rs, by omega, fun t => ?_, fun t => ?_⟩ <;> (
    obtain ⟨s, hs, e⟩ := Erf_num h t
    rw [e]
    obtain ⟨a1, a2, a3, a4, a5, a6, a7⟩ := okNum hv hs
    simp only [eOf]
    omega)
/-- How many steps are done before the round's counter is j. -/
def doneR (len j : Nat) : Nat := if j ≤ len then j else j - 1
theorem Erf_at {rs : List Rg} {r j : Nat} (hj : j < 2 * rs.length + 1) (h0 : j ≠ rs.length) : Erf rs (r * (2 * rs.length) + doneR rs.length j) = eOf rs ((j : Int) - rs.length) := by
  have hd : doneR rs.length j < 2 * rs.length := by unfold doneR; split <;> omega
  unfold Erf
  rw [show r * (2 * rs.length) + doneR rs.length j = doneR rs.length j + r * (2 * rs.length) by omega, Nat.add_mul_mod_self_right, Nat.mod_eq_of_lt hd]
  congr 1
  unfold numR doneR
  split <;> split <;> omega

/-- Lists that hold a state. -/
def Rep (n : Nat) (x : Bf.S) (s : List Int) (d : List Bool) : Prop := s.length = n ∧ d.length = n ∧ ∀ v, v < n → s.getD v 0 = x.far v ∧ d.getD v false = x.known v
theorem Rep.low {n : Nat} {x : Bf.S} {s : List Int} {d : List Bool} (h : Rep n x s d) (e : Bf.Edge) (hb : e.b < n) : Rep n (Bf.lowered x e) (s.set e.b (x.far e.a + e.w)) (d.set e.b true) := by
  obtain ⟨h1, h2, h3⟩ := h
  refine ⟨by simp [h1], by simp [h2], fun v hv => ?_⟩
  rw [getD_set (by omega), getD_set (by omega)]
  simp only [Bf.lowered, Bf.upd]
  split
  · exact ⟨rfl, rfl⟩
  · exact h3 v hv
/-- What the round reports. -/
def SaysB (E : Nat → Bf.Edge) (x : Bf.S) (t0 k : Nat) (lo : Bool) : Prop := (lo = false ∧ ∀ j, j < k → Bf.fires (Bf.run E x (t0 + j)) (E (t0 + j)) = false) ∨ (lo = true ∧ ∃ v : Nat, t0 < Bf.tm E x (t0 + k) v)
theorem SaysB.yes {E : Nat → Bf.Edge} {x : Bf.S} {t0 k : Nat} {lo : Bool} (h : SaysB E x t0 k lo) (hf : Bf.fires (Bf.run E x (t0 + k)) (E (t0 + k)) = true) : SaysB E x t0 (k + 1) true := by
  refine .inr ⟨rfl, (E (t0 + k)).b, ?_⟩
  rw [show t0 + (k + 1) = t0 + k + 1 by omega, Bf.tm_yes hf]
  omega
theorem SaysB.no {E : Nat → Bf.Edge} {x : Bf.S} {t0 k : Nat} {lo : Bool} (h : SaysB E x t0 k lo) (hf : Bf.fires (Bf.run E x (t0 + k)) (E (t0 + k)) = false) : SaysB E x t0 (k + 1) lo := by
  rcases h with ⟨h1, h2⟩ | ⟨h1, v, h2⟩
  · refine .inl ⟨h1, fun j hj => ?_⟩
    by_cases e : j = k
    · subst e; exact hf
    · exact h2 j (by omega)
  · refine .inr ⟨h1, v, ?_⟩
    rw [show t0 + (k + 1) = t0 + k + 1 by omega]
    exact Nat.lt_of_lt_of_le h2 (Bf.tm_mono1 _ _)

theorem potR {rs : List Rg} {p : Nat → Int} (h : Pot rs p) (he : rs ≠ []) : Bf.Pot (Erf rs) p := fun t => by
  obtain ⟨s, hs, e⟩ := Erf_num he t
  rw [e]
  exact h s hs
theorem num_nil {s : Int} (h : Num [] s) : False := by
  obtain ⟨h0, h1, h2⟩ := h
  simp only [List.length_nil] at h1 h2
  omega
theorem still_pot {n : Int} {rs : List Rg} (hv : VL n rs) {r : Nat} (h : ∀ j, j < 2 * rs.length → Bf.fires (Bf.run (Erf rs) (kn n.toNat) (r * (2 * rs.length) + j)) (Erf rs (r * (2 * rs.length) + j)) = false) : ∃ p, Pot rs p := by
  by_cases he : rs = []
  · subst he
    exact ⟨fun _ => 0, fun s hs => (num_nil hs).elim⟩
  · have hp := List.length_pos_iff.2 he
    obtain ⟨_, hs⟩ := Bf.still h (Erf_per rs) (by omega)
    refine ⟨(Bf.run (Erf rs) (kn n.toNat) (r * (2 * rs.length))).far, fun s hN => ?_⟩
    obtain ⟨t, e⟩ := num_Erf hN
    obtain ⟨a1, a2, a3, a4, a5, a6, a7⟩ := okNum hv hN
    have h1 := hs t
    rw [e] at h1
    have hk : ∀ v, v < n.toNat → (Bf.run (Erf rs) (kn n.toNat) (r * (2 * rs.length))).known v = true := fun v hv' =>
      Bf.known_mono (t := 0) (Nat.zero_le _) (by
        have h : (v : Int) < n := by omega
        simp [Bf.run, kn, h])
    simp only [Bf.fires, hk (eOf rs s).a (by simp only [eOf]; omega), hk (eOf rs s).b (by simp only [eOf]; omega), Bool.true_and, Bool.not_true, Bool.false_or, decide_eq_false_iff_not] at h1
    omega
theorem late_no {n : Int} {rs : List Rg} (hv : VL n rs) {x : Bf.S} {r v : Nat} (hr : n.toNat ≤ r) (h : r * (2 * rs.length) < Bf.tm (Erf rs) x (r * (2 * rs.length) + 2 * rs.length) v) (p : Nat → Int) (hp : Pot rs p) : False := by
  have h1 := Bf.tm_le (E := Erf rs) (x := x) (r * (2 * rs.length) + 2 * rs.length) v
  have he : rs ≠ [] := fun he => by
    subst he
    simp only [List.length_nil, Nat.mul_zero, Nat.add_zero] at h h1
    omega
  have h2 := Bf.no_late (Erf_ok hv he) (potR hp he) (x := x) (r * (2 * rs.length) + 2 * rs.length) v
  have h3 : n.toNat * (2 * rs.length) ≤ r * (2 * rs.length) := Nat.mul_le_mul_right _ hr
  omega
theorem sol_rounds {n : Int} {rs : List Rg} (hv : VL n rs) {i : Nat} {p : Nat → Int} (hp : Pot rs p) : Sol rs i (Bf.run (Erf rs) (one i) (n.toNat * (2 * rs.length))).known (Bf.run (Erf rs) (one i) (n.toNat * (2 * rs.length))).far := by
  refine sol_of_run (fun k hk => ?_) (fun s hs => ?_) hp
  · by_cases he : rs = []
    · subst he; simp at hk
    · exact Erf_num he k
  · by_cases he : rs = []
    · subst he; exact (num_nil hs).elim
    · obtain ⟨t, e⟩ := num_Erf hs
      rw [← e]
      exact rounds_done (Erf_ok hv he) (potR hp he) t

/-- Round. -/
theorem f38 {A : List Int → List Bool → Hp} {q1 q2 M : Nat} (hA : Two A q1 q2 M) {n : Int} {rs : List Rg} (hv : VL n rs) {l : AV} (hl : RdL l rs) {x : Bf.S} {r : Nat} {s : List Int} {d : List Bool} (hr : Rep n.toNat (Bf.run (Erf rs) x (r * (2 * rs.length))) s d) (hx : ∀ v, x.far v = 0) (hrn : r ≤ 41) {R0 : Hp} {L : List (Option ALoop)} :
    WF E21 (.func 38 [] []) [l, .agg [.sref q1 0 0 1 n.toNat (some n.toNat), .sref q2 0 0 1 n.toNat (some n.toNat)]] ⟨A s d ++ R0, L⟩ fun v m' => ∃ s' d' lo R', v = .bool lo ∧ m' = ⟨A s' d' ++ R', L⟩ ∧
      Rep n.toNat (Bf.run (Erf rs) x ((r + 1) * (2 * rs.length))) s' d' ∧ SaysB (Erf rs) x (r * (2 * rs.length)) (2 * rs.length) lo ∧ ∃ B, R' = R0 ++ B := by
  have hlen := hl.len
  have hn1 := hv.1
  have hn2 := hv.2.1
  have hl2 := hv.2.2.1
  refine WF.fnE rfl (fn_of Try.func38 cir38) (by show 2 ≤ 68; decide) ?_
  unfold ir38
  simp only [padTo, List.replicate, List.nil_append, List.append_nil, List.cons_append]
  repeat' (first | (refine WO.yes rfl ?_) | (refine WO.noE rfl (by simp only [pt8, pt0, pt1, pt2, pt3, pt4, pt5, pt6, pt7]; rfl) ?_) | (refine WO.opE (by intro; simp (disch := first | omega | (simp only [hA.len])) only [go_sem, zeros, Zz.cut, List.append_assoc, List.length_append, Nat.reduceAdd, Nat.reduceMul, Nat.reduceSub, Nat.reduceLeDiff, Nat.reduceEqDiff, Int.reduceNeg, Int.reduceAdd, Int.reduceToNat, reduceIte, reduceCtorEq, hA.len, hA.l1, hA.l2, hA.s1, hA.s2, Nat.mul_one, ia_sref, int_at, int_over, bool_at, bool_over, lkr00, str00]; rfl) (by simp only [pt8, pt0, pt1, pt2, pt3, pt4, pt5, pt6, pt7]; rfl) ?_) | (refine WO.opN (by intro; simp (disch := first | omega | (simp only [hA.len])) only [go_sem, zeros, Zz.cut, List.append_assoc, List.length_append, Nat.reduceAdd, Nat.reduceMul, Nat.reduceSub, Nat.reduceLeDiff, Nat.reduceEqDiff, Int.reduceNeg, Int.reduceAdd, Int.reduceToNat, reduceIte, reduceCtorEq, hA.len, hA.l1, hA.l2, hA.s1, hA.s2, Nat.mul_one, ia_sref, int_at, int_over, bool_at, bool_over, lkr00, str00]; rfl) ?_) | (refine WO.opE (by intro; exact ev_lenS (by simp only [go_sem]; first | rfl | assumption)) (by simp only [pt8, pt0, pt1, pt2, pt3, pt4, pt5, pt6, pt7]; rfl) ?_) | (refine WO.opE (by intro; exact ev_lenS (by simp only [go_sem]; exact hlen)) (by simp only [pt8, pt0, pt1, pt2, pt3, pt4, pt5, pt6, pt7]; rfl) ?_) | (refine WC.seq ?_) | (refine WC.region ?_) | (refine WO.nil ?_) | (simp only [fl1, fl2, fl3, fl4, fl5, fl6, fl7, fl8, fl9, fl10, Nat.reduceBEq]) | (refine WC.calm rfl ?_) | (refine WC.drawT ?_) | (refine WT.nil ?_) | (refine WT.yes rfl ?_) | (refine WT.no rfl (by simp only [pt8, pt0, pt1, pt2, pt3, pt4, pt5, pt6, pt7]; rfl) ?_) | (refine WT.free rfl (by intro; simp (disch := first | omega | (simp only [hA.len])) only [go_sem, zeros, Zz.cut, List.append_assoc, List.length_append, Nat.reduceAdd, Nat.reduceMul, Nat.reduceSub, Nat.reduceLeDiff, Nat.reduceEqDiff, Int.reduceNeg, Int.reduceAdd, Int.reduceToNat, reduceIte, reduceCtorEq, hA.len, hA.l1, hA.l2, hA.s1, hA.s2, Nat.mul_one, ia_sref, int_at, int_over, bool_at, bool_over, lkr00, str00]; rfl) rfl (by simp only [pt8, pt0, pt1, pt2, pt3, pt4, pt5, pt6, pt7]; rfl) ?_) | (refine WT.big rfl rfl (by intro; simp (disch := first | omega | (simp only [hA.len])) only [go_sem, zeros, Zz.cut, List.append_assoc, List.length_append, Nat.reduceAdd, Nat.reduceMul, Nat.reduceSub, Nat.reduceLeDiff, Nat.reduceEqDiff, Int.reduceNeg, Int.reduceAdd, Int.reduceToNat, reduceIte, reduceCtorEq, hA.len, hA.l1, hA.l2, hA.s1, hA.s2, Nat.mul_one, ia_sref, int_at, int_over, bool_at, bool_over, lkr00, str00]; rfl) (by simp (disch := first | omega | (simp only [hA.len])) only [go_sem, zeros, Zz.cut, List.append_assoc, List.length_append, Nat.reduceAdd, Nat.reduceMul, Nat.reduceSub, Nat.reduceLeDiff, Nat.reduceEqDiff, Int.reduceNeg, Int.reduceAdd, Int.reduceToNat, reduceIte, reduceCtorEq, hA.len, hA.l1, hA.l2, hA.s1, hA.s2, Nat.mul_one, ia_sref, int_at, int_over, bool_at, bool_over, lkr00, str00, touch]; rfl) (by first | exact .inl rfl | exact .inr (apart_nil _) | (right; apply apart_mk; simp only [apartL, List.nil_append, List.cons_append, List.getElem?_cons_succ, List.getElem?_cons_zero, Tch.free, and_true, true_and]; first | done | omega)) (by simp only [pt8, pt0, pt1, pt2, pt3, pt4, pt5, pt6, pt7]; rfl) ?_) | (refine WT.bigN rfl rfl (by intro; simp (disch := first | omega | (simp only [hA.len])) only [go_sem, zeros, Zz.cut, List.append_assoc, List.length_append, Nat.reduceAdd, Nat.reduceMul, Nat.reduceSub, Nat.reduceLeDiff, Nat.reduceEqDiff, Int.reduceNeg, Int.reduceAdd, Int.reduceToNat, reduceIte, reduceCtorEq, hA.len, hA.l1, hA.l2, hA.s1, hA.s2, Nat.mul_one, ia_sref, int_at, int_over, bool_at, bool_over, lkr00, str00]; rfl) (by simp (disch := first | omega | (simp only [hA.len])) only [go_sem, zeros, Zz.cut, List.append_assoc, List.length_append, Nat.reduceAdd, Nat.reduceMul, Nat.reduceSub, Nat.reduceLeDiff, Nat.reduceEqDiff, Int.reduceNeg, Int.reduceAdd, Int.reduceToNat, reduceIte, reduceCtorEq, hA.len, hA.l1, hA.l2, hA.s1, hA.s2, Nat.mul_one, ia_sref, int_at, int_over, bool_at, bool_over, lkr00, str00, touch]; rfl) (by first | exact .inl rfl | exact .inr (apart_nil _) | (right; apply apart_mk; simp only [apartL, List.nil_append, List.cons_append, List.getElem?_cons_succ, List.getElem?_cons_zero, Tch.free, and_true, true_and]; first | done | omega)) ?_) | (refine WC.yes rfl ?_) | (refine WC.no rfl ?_) | (refine WC.skip ?_) | (refine WC.exit ?_) | (refine WC.ret ?_) | (refine WC.block ?_) | (refine WT.em2 rfl (by intro hp; simp only [hp, decide_true]; rfl) (by intro hp; simp only [hp, decide_false]; rfl) (fun hp => ?_) (fun hp => ?_) <;> try (exfalso; first | omega | contradiction)) | (refine WO.em2 rfl (by intro hp; simp only [hp, decide_true]; rfl) (by intro hp; simp only [hp, decide_false]; rfl) (fun hp => ?_) (fun hp => ?_) <;> try (exfalso; first | omega | contradiction)) | (refine WC.em2 rfl (fun hp => ?_) (fun hp => ?_) <;> try (exfalso; first | omega | contradiction)))
  refine WC.loopI (fun m st => ∃ T s d lo j, st = ⟨T, A s d ++ (R0 ++ [some ⟨0, [.sref q1 0 0 1 n.toNat (some n.toNat), .sref q2 0 0 1 n.toNat (some n.toNat)]⟩]), L⟩ ∧ T.length = 68 ∧ gt T 0 = l ∧ gt T 3 = .pref (M + R0.length) 0 0 ∧ gt T 5 = .bool lo ∧ gt T 6 = .int .i64 ((j : Nat) - (rs.length : Int)) ∧ m + j = 2 * rs.length + 1 ∧
    Rep n.toNat (Bf.run (Erf rs) x (r * (2 * rs.length) + doneR rs.length j)) s d ∧ SaysB (Erf rs) x (r * (2 * rs.length)) (doneR rs.length j) lo) ?_ (2 * rs.length + 1) _ ⟨_, s, d, false, 0, rfl, rfl, rfl, rfl, rfl, by simp only [gt8, gt0, gt1, gt2, gt3, gt4, gt5, gt6, gt7, AV.int.injEq, true_and]; omega, by omega, hr, .inl ⟨rfl, fun j hj => by simp [doneR] at hj⟩⟩
  clear hr s d
  rintro m _ ⟨T, s, d, lo, j, rfl, hT, g0, g3, g5, g6, hm, hr, hsay⟩
  obtain ⟨f, rfl⟩ := ex68 hT
  clear hT
  replace g0 : f 0 = l := g0
  replace g3 : f 3 = .pref (M + R0.length) 0 0 := g3
  replace g5 : f 5 = .bool lo := g5
  replace g6 : f 6 = .int .i64 ((j : Nat) - (rs.length : Int)) := g6
  simp only [g0, g3, g5, g6]
  by_cases hj : j < 2 * rs.length + 1
  · by_cases h0 : j = rs.length
    · subst h0
      repeat' (first | (refine WO.yes rfl ?_) | (refine WO.noE rfl (by simp only [pt8, pt0, pt1, pt2, pt3, pt4, pt5, pt6, pt7]; rfl) ?_) | (refine WO.opE (by intro; simp (disch := first | omega | (simp only [hA.len])) only [go_sem, zeros, Zz.cut, List.append_assoc, List.length_append, Nat.reduceAdd, Nat.reduceMul, Nat.reduceSub, Nat.reduceLeDiff, Nat.reduceEqDiff, Int.reduceNeg, Int.reduceAdd, Int.reduceToNat, reduceIte, reduceCtorEq, hA.len, hA.l1, hA.l2, hA.s1, hA.s2, Nat.mul_one, ia_sref, int_at, int_over, bool_at, bool_over, lkr00, str00]; rfl) (by simp only [pt8, pt0, pt1, pt2, pt3, pt4, pt5, pt6, pt7]; rfl) ?_) | (refine WO.opN (by intro; simp (disch := first | omega | (simp only [hA.len])) only [go_sem, zeros, Zz.cut, List.append_assoc, List.length_append, Nat.reduceAdd, Nat.reduceMul, Nat.reduceSub, Nat.reduceLeDiff, Nat.reduceEqDiff, Int.reduceNeg, Int.reduceAdd, Int.reduceToNat, reduceIte, reduceCtorEq, hA.len, hA.l1, hA.l2, hA.s1, hA.s2, Nat.mul_one, ia_sref, int_at, int_over, bool_at, bool_over, lkr00, str00]; rfl) ?_) | (refine WO.opE (by intro; exact ev_lenS (by simp only [go_sem]; first | rfl | assumption)) (by simp only [pt8, pt0, pt1, pt2, pt3, pt4, pt5, pt6, pt7]; rfl) ?_) | (refine WO.opE (by intro; exact ev_lenS (by simp only [go_sem]; exact hlen)) (by simp only [pt8, pt0, pt1, pt2, pt3, pt4, pt5, pt6, pt7]; rfl) ?_) | (refine WC.seq ?_) | (refine WC.region ?_) | (refine WO.nil ?_) | (simp only [fl1, fl2, fl3, fl4, fl5, fl6, fl7, fl8, fl9, fl10, Nat.reduceBEq]) | (refine WC.calm rfl ?_) | (refine WC.drawT ?_) | (refine WT.nil ?_) | (refine WT.yes rfl ?_) | (refine WT.no rfl (by simp only [pt8, pt0, pt1, pt2, pt3, pt4, pt5, pt6, pt7]; rfl) ?_) | (refine WT.free rfl (by intro; simp (disch := first | omega | (simp only [hA.len])) only [go_sem, zeros, Zz.cut, List.append_assoc, List.length_append, Nat.reduceAdd, Nat.reduceMul, Nat.reduceSub, Nat.reduceLeDiff, Nat.reduceEqDiff, Int.reduceNeg, Int.reduceAdd, Int.reduceToNat, reduceIte, reduceCtorEq, hA.len, hA.l1, hA.l2, hA.s1, hA.s2, Nat.mul_one, ia_sref, int_at, int_over, bool_at, bool_over, lkr00, str00]; rfl) rfl (by simp only [pt8, pt0, pt1, pt2, pt3, pt4, pt5, pt6, pt7]; rfl) ?_) | (refine WT.big rfl rfl (by intro; simp (disch := first | omega | (simp only [hA.len])) only [go_sem, zeros, Zz.cut, List.append_assoc, List.length_append, Nat.reduceAdd, Nat.reduceMul, Nat.reduceSub, Nat.reduceLeDiff, Nat.reduceEqDiff, Int.reduceNeg, Int.reduceAdd, Int.reduceToNat, reduceIte, reduceCtorEq, hA.len, hA.l1, hA.l2, hA.s1, hA.s2, Nat.mul_one, ia_sref, int_at, int_over, bool_at, bool_over, lkr00, str00]; rfl) (by simp (disch := first | omega | (simp only [hA.len])) only [go_sem, zeros, Zz.cut, List.append_assoc, List.length_append, Nat.reduceAdd, Nat.reduceMul, Nat.reduceSub, Nat.reduceLeDiff, Nat.reduceEqDiff, Int.reduceNeg, Int.reduceAdd, Int.reduceToNat, reduceIte, reduceCtorEq, hA.len, hA.l1, hA.l2, hA.s1, hA.s2, Nat.mul_one, ia_sref, int_at, int_over, bool_at, bool_over, lkr00, str00, touch]; rfl) (by first | exact .inl rfl | exact .inr (apart_nil _) | (right; apply apart_mk; simp only [apartL, List.nil_append, List.cons_append, List.getElem?_cons_succ, List.getElem?_cons_zero, Tch.free, and_true, true_and]; first | done | omega)) (by simp only [pt8, pt0, pt1, pt2, pt3, pt4, pt5, pt6, pt7]; rfl) ?_) | (refine WT.bigN rfl rfl (by intro; simp (disch := first | omega | (simp only [hA.len])) only [go_sem, zeros, Zz.cut, List.append_assoc, List.length_append, Nat.reduceAdd, Nat.reduceMul, Nat.reduceSub, Nat.reduceLeDiff, Nat.reduceEqDiff, Int.reduceNeg, Int.reduceAdd, Int.reduceToNat, reduceIte, reduceCtorEq, hA.len, hA.l1, hA.l2, hA.s1, hA.s2, Nat.mul_one, ia_sref, int_at, int_over, bool_at, bool_over, lkr00, str00]; rfl) (by simp (disch := first | omega | (simp only [hA.len])) only [go_sem, zeros, Zz.cut, List.append_assoc, List.length_append, Nat.reduceAdd, Nat.reduceMul, Nat.reduceSub, Nat.reduceLeDiff, Nat.reduceEqDiff, Int.reduceNeg, Int.reduceAdd, Int.reduceToNat, reduceIte, reduceCtorEq, hA.len, hA.l1, hA.l2, hA.s1, hA.s2, Nat.mul_one, ia_sref, int_at, int_over, bool_at, bool_over, lkr00, str00, touch]; rfl) (by first | exact .inl rfl | exact .inr (apart_nil _) | (right; apply apart_mk; simp only [apartL, List.nil_append, List.cons_append, List.getElem?_cons_succ, List.getElem?_cons_zero, Tch.free, and_true, true_and]; first | done | omega)) ?_) | (refine WC.yes rfl ?_) | (refine WC.no rfl ?_) | (refine WC.skip ?_) | (refine WC.exit ?_) | (refine WC.ret ?_) | (refine WC.block ?_) | (refine WT.em2 rfl (by intro hp; simp only [hp, decide_true]; rfl) (by intro hp; simp only [hp, decide_false]; rfl) (fun hp => ?_) (fun hp => ?_) <;> try (exfalso; first | omega | contradiction)) | (refine WO.em2 rfl (by intro hp; simp only [hp, decide_true]; rfl) (by intro hp; simp only [hp, decide_false]; rfl) (fun hp => ?_) (fun hp => ?_) <;> try (exfalso; first | omega | contradiction)) | (refine WC.em2 rfl (fun hp => ?_) (fun hp => ?_) <;> try (exfalso; first | omega | contradiction)))
      exact ⟨m - 1, by omega, _, s, d, lo, rs.length + 1, rfl, rfl, rfl, rfl, rfl, by simp only [gt8, gt0, gt1, gt2, gt3, gt4, gt5, gt6, gt7, AV.int.injEq, true_and]; omega, by omega,
        by rw [show doneR rs.length (rs.length + 1) = doneR rs.length rs.length by unfold doneR; split <;> split <;> omega]; exact hr,
        by rw [show doneR rs.length (rs.length + 1) = doneR rs.length rs.length by unfold doneR; split <;> split <;> omega]; exact hsay⟩
    · have hE := Erf_at (r := r) hj h0
      have hN : Num rs ((j : Int) - rs.length) := ⟨by omega, by omega, by omega⟩
      obtain ⟨k1, k2, k3, k4, k5, k6, k7⟩ := okNum hv hN
      have hdn : doneR rs.length (j + 1) = doneR rs.length j + 1 := by unfold doneR; split <;> split <;> omega
      have hbd := Bf.far_small (E := Erf rs) (x := x) (M := 100000000000000) (by omega) (fun t => by
        by_cases he : rs = []
        · subst he; simp at hj; simp at h0; omega
        · obtain ⟨s, hs, e⟩ := Erf_num he t
          rw [e]
          exact (okNum hv hs).2.2.2.2.2) hx (r * (2 * rs.length) + doneR rs.length j) (stA rs ((j : Int) - rs.length)).toNat
      have hrl : r * (2 * rs.length) ≤ 41 * 400 := Nat.mul_le_mul hrn (by omega)
      have hdl : doneR rs.length j ≤ 400 := by unfold doneR; split <;> omega
      generalize ht : r * (2 * rs.length) + doneR rs.length j = t at *
      have hb1 : ((t : Nat) : Int) * 100000000000000 ≤ 16800 * 100000000000000 := by omega
      have hr0 := hr
      obtain ⟨r1, r2, r3⟩ := hr
      obtain ⟨ra1, ra2⟩ := r3 (stA rs ((j : Int) - rs.length)).toNat (by omega)
      obtain ⟨rb1, rb2⟩ := r3 (stB rs ((j : Int) - rs.length)).toNat (by omega)
      repeat' (first | (refine WO.yes rfl ?_) | (refine WO.noE rfl (by simp only [pt8, pt0, pt1, pt2, pt3, pt4, pt5, pt6, pt7]; rfl) ?_) | (refine WO.opE (by intro; simp (disch := first | omega | (simp only [hA.len])) only [go_sem, zeros, Zz.cut, List.append_assoc, List.length_append, Nat.reduceAdd, Nat.reduceMul, Nat.reduceSub, Nat.reduceLeDiff, Nat.reduceEqDiff, Int.reduceNeg, Int.reduceAdd, Int.reduceToNat, reduceIte, reduceCtorEq, hA.len, hA.l1, hA.l2, hA.s1, hA.s2, Nat.mul_one, ia_sref, int_at, int_over, bool_at, bool_over, lkr00, str00, ra1, ra2, rb1, rb2]; rfl) (by simp only [pt8, pt0, pt1, pt2, pt3, pt4, pt5, pt6, pt7]; rfl) ?_) | (refine WO.opN (by intro; simp (disch := first | omega | (simp only [hA.len])) only [go_sem, zeros, Zz.cut, List.append_assoc, List.length_append, Nat.reduceAdd, Nat.reduceMul, Nat.reduceSub, Nat.reduceLeDiff, Nat.reduceEqDiff, Int.reduceNeg, Int.reduceAdd, Int.reduceToNat, reduceIte, reduceCtorEq, hA.len, hA.l1, hA.l2, hA.s1, hA.s2, Nat.mul_one, ia_sref, int_at, int_over, bool_at, bool_over, lkr00, str00, ra1, ra2, rb1, rb2]; rfl) ?_) | (refine WO.opE (by intro; exact ev_lenS (by simp only [go_sem]; first | rfl | assumption)) (by simp only [pt8, pt0, pt1, pt2, pt3, pt4, pt5, pt6, pt7]; rfl) ?_) | (refine WO.opE (by intro; exact ev_lenS (by simp only [go_sem]; exact hlen)) (by simp only [pt8, pt0, pt1, pt2, pt3, pt4, pt5, pt6, pt7]; rfl) ?_) | (refine WO.specE rfl rfl (s33 hv hl hN) (by simp only [pt8, pt0, pt1, pt2, pt3, pt4, pt5, pt6, pt7]; rfl) ?_) | (refine WO.specE rfl rfl (s32 hv hl hN) (by simp only [pt8, pt0, pt1, pt2, pt3, pt4, pt5, pt6, pt7]; rfl) ?_) | (refine WT.spec rfl rfl (fun V => s34 hv hl hN) (by simp only [pt8, pt0, pt1, pt2, pt3, pt4, pt5, pt6, pt7]; rfl) ?_) | (refine WC.seq ?_) | (refine WC.region ?_) | (refine WO.nil ?_) | (simp only [fl1, fl2, fl3, fl4, fl5, fl6, fl7, fl8, fl9, fl10, Nat.reduceBEq]) | (refine WC.calm rfl ?_) | (refine WC.drawT ?_) | (refine WT.nil ?_) | (refine WT.yes rfl ?_) | (refine WT.no rfl (by simp only [pt8, pt0, pt1, pt2, pt3, pt4, pt5, pt6, pt7]; rfl) ?_) | (refine WT.free rfl (by intro; simp (disch := first | omega | (simp only [hA.len])) only [go_sem, zeros, Zz.cut, List.append_assoc, List.length_append, Nat.reduceAdd, Nat.reduceMul, Nat.reduceSub, Nat.reduceLeDiff, Nat.reduceEqDiff, Int.reduceNeg, Int.reduceAdd, Int.reduceToNat, reduceIte, reduceCtorEq, hA.len, hA.l1, hA.l2, hA.s1, hA.s2, Nat.mul_one, ia_sref, int_at, int_over, bool_at, bool_over, lkr00, str00, ra1, ra2, rb1, rb2]; rfl) rfl (by simp only [pt8, pt0, pt1, pt2, pt3, pt4, pt5, pt6, pt7]; rfl) ?_) | (refine WT.big rfl rfl (by intro; simp (disch := first | omega | (simp only [hA.len])) only [go_sem, zeros, Zz.cut, List.append_assoc, List.length_append, Nat.reduceAdd, Nat.reduceMul, Nat.reduceSub, Nat.reduceLeDiff, Nat.reduceEqDiff, Int.reduceNeg, Int.reduceAdd, Int.reduceToNat, reduceIte, reduceCtorEq, hA.len, hA.l1, hA.l2, hA.s1, hA.s2, Nat.mul_one, ia_sref, int_at, int_over, bool_at, bool_over, lkr00, str00, ra1, ra2, rb1, rb2]; rfl) (by simp (disch := first | omega | (simp only [hA.len])) only [go_sem, zeros, Zz.cut, List.append_assoc, List.length_append, Nat.reduceAdd, Nat.reduceMul, Nat.reduceSub, Nat.reduceLeDiff, Nat.reduceEqDiff, Int.reduceNeg, Int.reduceAdd, Int.reduceToNat, reduceIte, reduceCtorEq, hA.len, hA.l1, hA.l2, hA.s1, hA.s2, Nat.mul_one, ia_sref, int_at, int_over, bool_at, bool_over, lkr00, str00, ra1, ra2, rb1, rb2, touch]; rfl) (by first | exact .inl rfl | exact .inr (apart_nil _) | (right; apply apart_mk; simp only [apartL, List.nil_append, List.cons_append, List.getElem?_cons_succ, List.getElem?_cons_zero, Tch.free, and_true, true_and]; first | done | omega)) (by simp only [pt8, pt0, pt1, pt2, pt3, pt4, pt5, pt6, pt7]; rfl) ?_) | (refine WT.bigN rfl rfl (by intro; simp (disch := first | omega | (simp only [hA.len])) only [go_sem, zeros, Zz.cut, List.append_assoc, List.length_append, Nat.reduceAdd, Nat.reduceMul, Nat.reduceSub, Nat.reduceLeDiff, Nat.reduceEqDiff, Int.reduceNeg, Int.reduceAdd, Int.reduceToNat, reduceIte, reduceCtorEq, hA.len, hA.l1, hA.l2, hA.s1, hA.s2, Nat.mul_one, ia_sref, int_at, int_over, bool_at, bool_over, lkr00, str00, ra1, ra2, rb1, rb2]; rfl) (by simp (disch := first | omega | (simp only [hA.len])) only [go_sem, zeros, Zz.cut, List.append_assoc, List.length_append, Nat.reduceAdd, Nat.reduceMul, Nat.reduceSub, Nat.reduceLeDiff, Nat.reduceEqDiff, Int.reduceNeg, Int.reduceAdd, Int.reduceToNat, reduceIte, reduceCtorEq, hA.len, hA.l1, hA.l2, hA.s1, hA.s2, Nat.mul_one, ia_sref, int_at, int_over, bool_at, bool_over, lkr00, str00, ra1, ra2, rb1, rb2, touch]; rfl) (by first | exact .inl rfl | exact .inr (apart_nil _) | (right; apply apart_mk; simp only [apartL, List.nil_append, List.cons_append, List.getElem?_cons_succ, List.getElem?_cons_zero, Tch.free, and_true, true_and]; first | done | omega)) ?_) | (refine WC.yes rfl ?_) | (refine WC.no rfl ?_) | (refine WC.skip ?_) | (refine WC.exit ?_) | (refine WC.ret ?_) | (refine WC.block ?_) | (refine WT.em2 rfl (by intro hp; simp only [hp, decide_true]; rfl) (by intro hp; simp only [hp, decide_false]; rfl) (fun hp => ?_) (fun hp => ?_) <;> try (exfalso; first | omega | contradiction)) | (refine WO.em2 rfl (by intro hp; simp only [hp, decide_true]; rfl) (by intro hp; simp only [hp, decide_false]; rfl) (fun hp => ?_) (fun hp => ?_) <;> try (exfalso; first | omega | contradiction)) | (refine WC.em2 rfl (fun hp => ?_) (fun hp => ?_) <;> try (exfalso; first | omega | contradiction)))
      iterate 2
        (· have hf : Bf.fires (Bf.run (Erf rs) x t) (Erf rs t) = true := by simp [Bf.fires, hE, eOf, *]
           have hq := hr0.low (eOf rs ((j : Int) - rs.length)) (by simp only [eOf]; omega)
           have hsy := hsay.yes (by rw [ht]; exact hf)
           exact ⟨m - 1, by omega, _, _, _, true, j + 1, rfl, rfl, rfl, rfl, rfl, by simp only [gt8, gt0, gt1, gt2, gt3, gt4, gt5, gt6, gt7, AV.int.injEq, true_and]; omega, by omega, by rw [hdn, ← Nat.add_assoc, ht, Bf.run_yes hf, hE]; exact hq, by rw [hdn]; exact hsy⟩)
      · have hkb := Decidable.of_not_not ‹¬¬(Bf.run (Erf rs) x t).known (stB rs ((j : Int) - rs.length)).toNat = true›
        have hf : Bf.fires (Bf.run (Erf rs) x t) (Erf rs t) = false := by simp [Bf.fires, hE, eOf, hkb, hp]
        have hsy := hsay.no (by rw [ht]; exact hf)
        exact ⟨m - 1, by omega, _, s, d, lo, j + 1, rfl, rfl, rfl, rfl, rfl, by simp only [gt8, gt0, gt1, gt2, gt3, gt4, gt5, gt6, gt7, AV.int.injEq, true_and]; omega, by omega, by rw [hdn, ← Nat.add_assoc, ht, Bf.run_no hf]; exact hr0, by rw [hdn]; exact hsy⟩
      · have hf : Bf.fires (Bf.run (Erf rs) x t) (Erf rs t) = false := by simp [Bf.fires, hE, eOf, hp]
        have hsy := hsay.no (by rw [ht]; exact hf)
        exact ⟨m - 1, by omega, _, s, d, lo, j + 1, rfl, rfl, rfl, rfl, rfl, by simp only [gt8, gt0, gt1, gt2, gt3, gt4, gt5, gt6, gt7, AV.int.injEq, true_and]; omega, by omega, by rw [hdn, ← Nat.add_assoc, ht, Bf.run_no hf]; exact hr0, by rw [hdn]; exact hsy⟩
  · have hj' : j = 2 * rs.length + 1 := by omega
    subst hj'
    have hd : doneR rs.length (2 * rs.length + 1) = 2 * rs.length := by unfold doneR; split <;> omega
    rw [hd] at hr hsay
    repeat' (first | (refine WO.yes rfl ?_) | (refine WO.noE rfl (by simp only [pt8, pt0, pt1, pt2, pt3, pt4, pt5, pt6, pt7]; rfl) ?_) | (refine WO.opE (by intro; simp (disch := first | omega | (simp only [hA.len])) only [go_sem, zeros, Zz.cut, List.append_assoc, List.length_append, Nat.reduceAdd, Nat.reduceMul, Nat.reduceSub, Nat.reduceLeDiff, Nat.reduceEqDiff, Int.reduceNeg, Int.reduceAdd, Int.reduceToNat, reduceIte, reduceCtorEq, hA.len, hA.l1, hA.l2, hA.s1, hA.s2, Nat.mul_one, ia_sref, int_at, int_over, bool_at, bool_over, lkr00, str00]; rfl) (by simp only [pt8, pt0, pt1, pt2, pt3, pt4, pt5, pt6, pt7]; rfl) ?_) | (refine WO.opN (by intro; simp (disch := first | omega | (simp only [hA.len])) only [go_sem, zeros, Zz.cut, List.append_assoc, List.length_append, Nat.reduceAdd, Nat.reduceMul, Nat.reduceSub, Nat.reduceLeDiff, Nat.reduceEqDiff, Int.reduceNeg, Int.reduceAdd, Int.reduceToNat, reduceIte, reduceCtorEq, hA.len, hA.l1, hA.l2, hA.s1, hA.s2, Nat.mul_one, ia_sref, int_at, int_over, bool_at, bool_over, lkr00, str00]; rfl) ?_) | (refine WO.opE (by intro; exact ev_lenS (by simp only [go_sem]; first | rfl | assumption)) (by simp only [pt8, pt0, pt1, pt2, pt3, pt4, pt5, pt6, pt7]; rfl) ?_) | (refine WO.opE (by intro; exact ev_lenS (by simp only [go_sem]; exact hlen)) (by simp only [pt8, pt0, pt1, pt2, pt3, pt4, pt5, pt6, pt7]; rfl) ?_) | (refine WC.seq ?_) | (refine WC.region ?_) | (refine WO.nil ?_) | (simp only [fl1, fl2, fl3, fl4, fl5, fl6, fl7, fl8, fl9, fl10, Nat.reduceBEq]) | (refine WC.calm rfl ?_) | (refine WC.drawT ?_) | (refine WT.nil ?_) | (refine WT.yes rfl ?_) | (refine WT.no rfl (by simp only [pt8, pt0, pt1, pt2, pt3, pt4, pt5, pt6, pt7]; rfl) ?_) | (refine WT.free rfl (by intro; simp (disch := first | omega | (simp only [hA.len])) only [go_sem, zeros, Zz.cut, List.append_assoc, List.length_append, Nat.reduceAdd, Nat.reduceMul, Nat.reduceSub, Nat.reduceLeDiff, Nat.reduceEqDiff, Int.reduceNeg, Int.reduceAdd, Int.reduceToNat, reduceIte, reduceCtorEq, hA.len, hA.l1, hA.l2, hA.s1, hA.s2, Nat.mul_one, ia_sref, int_at, int_over, bool_at, bool_over, lkr00, str00]; rfl) rfl (by simp only [pt8, pt0, pt1, pt2, pt3, pt4, pt5, pt6, pt7]; rfl) ?_) | (refine WT.big rfl rfl (by intro; simp (disch := first | omega | (simp only [hA.len])) only [go_sem, zeros, Zz.cut, List.append_assoc, List.length_append, Nat.reduceAdd, Nat.reduceMul, Nat.reduceSub, Nat.reduceLeDiff, Nat.reduceEqDiff, Int.reduceNeg, Int.reduceAdd, Int.reduceToNat, reduceIte, reduceCtorEq, hA.len, hA.l1, hA.l2, hA.s1, hA.s2, Nat.mul_one, ia_sref, int_at, int_over, bool_at, bool_over, lkr00, str00]; rfl) (by simp (disch := first | omega | (simp only [hA.len])) only [go_sem, zeros, Zz.cut, List.append_assoc, List.length_append, Nat.reduceAdd, Nat.reduceMul, Nat.reduceSub, Nat.reduceLeDiff, Nat.reduceEqDiff, Int.reduceNeg, Int.reduceAdd, Int.reduceToNat, reduceIte, reduceCtorEq, hA.len, hA.l1, hA.l2, hA.s1, hA.s2, Nat.mul_one, ia_sref, int_at, int_over, bool_at, bool_over, lkr00, str00, touch]; rfl) (by first | exact .inl rfl | exact .inr (apart_nil _) | (right; apply apart_mk; simp only [apartL, List.nil_append, List.cons_append, List.getElem?_cons_succ, List.getElem?_cons_zero, Tch.free, and_true, true_and]; first | done | omega)) (by simp only [pt8, pt0, pt1, pt2, pt3, pt4, pt5, pt6, pt7]; rfl) ?_) | (refine WT.bigN rfl rfl (by intro; simp (disch := first | omega | (simp only [hA.len])) only [go_sem, zeros, Zz.cut, List.append_assoc, List.length_append, Nat.reduceAdd, Nat.reduceMul, Nat.reduceSub, Nat.reduceLeDiff, Nat.reduceEqDiff, Int.reduceNeg, Int.reduceAdd, Int.reduceToNat, reduceIte, reduceCtorEq, hA.len, hA.l1, hA.l2, hA.s1, hA.s2, Nat.mul_one, ia_sref, int_at, int_over, bool_at, bool_over, lkr00, str00]; rfl) (by simp (disch := first | omega | (simp only [hA.len])) only [go_sem, zeros, Zz.cut, List.append_assoc, List.length_append, Nat.reduceAdd, Nat.reduceMul, Nat.reduceSub, Nat.reduceLeDiff, Nat.reduceEqDiff, Int.reduceNeg, Int.reduceAdd, Int.reduceToNat, reduceIte, reduceCtorEq, hA.len, hA.l1, hA.l2, hA.s1, hA.s2, Nat.mul_one, ia_sref, int_at, int_over, bool_at, bool_over, lkr00, str00, touch]; rfl) (by first | exact .inl rfl | exact .inr (apart_nil _) | (right; apply apart_mk; simp only [apartL, List.nil_append, List.cons_append, List.getElem?_cons_succ, List.getElem?_cons_zero, Tch.free, and_true, true_and]; first | done | omega)) ?_) | (refine WC.yes rfl ?_) | (refine WC.no rfl ?_) | (refine WC.skip ?_) | (refine WC.exit ?_) | (refine WC.ret ?_) | (refine WC.block ?_) | (refine WT.em2 rfl (by intro hp; simp only [hp, decide_true]; rfl) (by intro hp; simp only [hp, decide_false]; rfl) (fun hp => ?_) (fun hp => ?_) <;> try (exfalso; first | omega | contradiction)) | (refine WO.em2 rfl (by intro hp; simp only [hp, decide_true]; rfl) (by intro hp; simp only [hp, decide_false]; rfl) (fun hp => ?_) (fun hp => ?_) <;> try (exfalso; first | omega | contradiction)) | (refine WC.em2 rfl (fun hp => ?_) (fun hp => ?_) <;> try (exfalso; first | omega | contradiction)))
    exact ⟨_, rfl, s, d, lo, _, rfl, rfl, by rw [Nat.succ_mul]; exact hr, hsay, _, rfl⟩
end Go.Proofs.Ytndaljjljmmlcaa

