import Derived.Test.YtnilimjkibimcaaPe
set_option linter.unusedSimpArgs false
set_option linter.unusedVariables false

namespace Go.Proofs.Ytnilimjkibimcaa
open Go.Zz
theorem gt_low {e : Nat → Nat → Int} {n i : Nat} (hT : Tri e n) {u : Nat → Int} (h : Sp n (gtP e i n) u) : ∀ j, j ≤ i → j < n → u j = 0 := by
  induction h with
  | gen hg =>
    obtain ⟨k, h1, h2, rfl⟩ := hg
    exact fun j hj _ => hT.zero k h2 j (show j < k by omega)
  | zero hz => exact fun j _ hj => hz j hj
  | add _ _ he i1 i2 => exact fun j h1 h2 => by rw [he j h2, i1 j h1 h2, i2 j h1 h2]; rfl
  | neg _ he i1 => exact fun j h1 h2 => by rw [he j h2, i1 j h1 h2]; rfl
theorem row_step {e e' : Nat → Nat → Int} {n i : Nat} {u : Nat → Int} (hT : Tri e n) (hi : i < n) (hs : ∀ k, k < n → k ≠ i → ∀ j, j < n → e' k j = e k j) (hh : ∀ j, j < n → e' i j = e i j + u j) (hu : Sp n (gtP e i n) u) : Tri e' n ∧ ∀ g, Sp n (rowsP e' n) g ↔ Sp n (rowsP e n) g := by
  have hlow := gt_low hT hu
  refine ⟨Tri.mk (fun k hk => ?_) fun k j hk hj => ?_, fun g => ⟨fun hg => hg.mono ?_, fun hg => hg.mono ?_⟩⟩
  · by_cases e1 : k = i
    · subst e1; rw [hh k hk, hlow k (Nat.le_refl _) hk, Int.add_zero]; exact hT.pos k hk
    · rw [hs k hk e1 k hk]; exact hT.pos k hk
  · by_cases e1 : k = i
    · subst e1; rw [hh j (by omega), hlow j (by omega) (by omega), Int.add_zero]; exact hT.zero k hk j hj
    · rw [hs k hk e1 j (by omega)]; exact hT.zero k hk j hj
  · rintro g ⟨k, hk, rfl⟩
    by_cases e1 : k = i
    · subst e1; exact .add (Sp.row hk) (gt_rows hu) hh
    · exact Sp.of_eq (Sp.row hk) fun j hj => hs k hk e1 j hj
  · rintro g ⟨k, hk, rfl⟩
    have hu' : Sp n (rowsP e' n) u := gt_rows (gt_same (fun k h1 h2 j hj => hs k h2 (by omega) j hj) hu)
    by_cases e1 : k = i
    · subst e1; exact Sp.sub (Sp.row hk) hu' fun j hj => by rw [hh j hj]; omega
    · exact Sp.of_eq (Sp.row hk) fun j hj => (hs k hk e1 j hj).symm
theorem Full.iff {e e' : Nat → Nat → Int} {n : Nat} {d : Int} (h : Full e n d) (hs : ∀ g, Sp n (rowsP e' n) g ↔ Sp n (rowsP e n) g) : Full e' n d := fun j hj => (hs _).2 (h j hj)
structure RK (n : Nat) (d : Int) (R0 R : List (List Int)) (i t : Nat) : Prop where
  lb : LB R n d
  tri : Tri (ent R) n
  full : Full (ent R) n d
  same : ∀ k, k < n → k ≠ i → ∀ j, j < n → ent R k j = ent R0 k j
  sp : ∀ g, Sp n (rowsP (ent R) n) g ↔ Sp n (rowsP (ent R0) n) g
  red : ∀ k, i < k → k < i + 1 + t → 0 ≤ ent R i k ∧ ent R i k < ent R k k
theorem redK_RK {n i : Nat} {d : Int} {R : List (List Int)} (hd : 0 < d) (h : LB R n d) (hT : Tri (ent R) n) (hF : Full (ent R) n d) : ∀ t, i + 1 + t ≤ n → RK n d R (redK n R i d t) i t
  | 0, _ => ⟨h, hT, hF, fun _ _ _ _ _ => rfl, fun _ => Iff.rfl, fun k h1 h2 => by omega⟩
  | t + 1, ht => by
    have ih := redK_RK (i := i) hd h hT hF t (by omega)
    have hlb := LB.redK (i := i) hd (t := t + 1) h (by omega)
    generalize hS : redK n R i d t = S at *
    obtain ⟨b1, b2, b3, b4, b5, b6⟩ := ih
    have hR : redK n R i d (t + 1) = redJ (setE S i (i + 1 + t) (ent S i (i + 1 + t) % ent S (i + 1 + t) (i + 1 + t))) i (i + 1 + t) (ent S i (i + 1 + t) / ent S (i + 1 + t) (i + 1 + t)) d (n - (i + 1 + t) - 1) := by
      show redJ (setE (redK n R i d t) i (i + 1 + t) (ent (redK n R i d t) i (i + 1 + t) % ent (redK n R i d t) (i + 1 + t) (i + 1 + t))) i (i + 1 + t) (ent (redK n R i d t) i (i + 1 + t) / ent (redK n R i d t) (i + 1 + t) (i + 1 + t)) d (n - (i + 1 + t) - 1) = _
      rw [hS]
    have hp := b1.diag (i + 1 + t) (by omega)
    have he := b1.el (i + 1 + t) (i + 1 + t) (by omega) (by omega)
    have hm1 := Int.emod_nonneg (ent S i (i + 1 + t)) (show ent S (i + 1 + t) (i + 1 + t) ≠ 0 by omega)
    have hm2 := Int.emod_lt_of_pos (ent S i (i + 1 + t)) hp
    have hS1 : LB (setE S i (i + 1 + t) (ent S i (i + 1 + t) % ent S (i + 1 + t) (i + 1 + t))) n d := b1.setE (by omega) (by omega) ⟨hm1, by omega⟩ fun e => by omega
    have e1 := fun k j => ent_setE (x := ent S i (i + 1 + t) % ent S (i + 1 + t) (i + 1 + t)) (i' := k) (j' := j) b1.len b1.row (show i < n by omega) (show i + 1 + t < n by omega)
    have e2 := redJ_ent (i := i) (k := i + 1 + t) (q := ent S i (i + 1 + t) / ent S (i + 1 + t) (i + 1 + t)) hd (by omega) hS1 (by omega) (n - (i + 1 + t) - 1) (by omega)
    rw [← hR] at e2
    have r1 : ∀ r j, j < n → ent (redK n R i d (t + 1)) r j = if r = i ∧ i + 1 + t < j then (ent S i j - ent S i (i + 1 + t) / ent S (i + 1 + t) (i + 1 + t) * ent S (i + 1 + t) j) % d else if r = i ∧ j = i + 1 + t then ent S i (i + 1 + t) % ent S (i + 1 + t) (i + 1 + t) else ent S r j := fun r j hj => by
      rw [e2, e1, e1, e1]
      by_cases hc : r = i ∧ i + 1 + t < j
      · rw [if_pos (by omega), if_pos hc, if_neg (by omega), if_neg (by omega)]
      · rw [if_neg (by omega), if_neg hc]
    clear e1 e2
    generalize redK n R i d (t + 1) = S' at *
    have hrow : ∀ k, k < n → k ≠ i → ∀ j, j < n → ent S' k j = ent S k j := fun k _ hk j hj => by rw [r1 k j hj, if_neg (by omega), if_neg (by omega)]
    have hdm := Int.emod_add_mul_ediv (ent S i (i + 1 + t)) (ent S (i + 1 + t) (i + 1 + t))
    have hz : Sp n (gtP (ent S) (i + 1 + t) n) fun j => ent S' i j - (ent S i j - ent S i (i + 1 + t) / ent S (i + 1 + t) (i + 1 + t) * ent S (i + 1 + t) j) := by
      refine b3.gt b2 (fun j hj hjn => ?_) fun j hj hjn => ?_
      · show ent S' i j - (ent S i j - ent S i (i + 1 + t) / ent S (i + 1 + t) (i + 1 + t) * ent S (i + 1 + t) j) = 0
        rw [r1 i j hjn, if_neg (by omega)]
        by_cases e : j = i + 1 + t
        · subst e; rw [if_pos ⟨rfl, rfl⟩]; rw [Int.mul_comm] at hdm; omega
        · rw [if_neg (by omega), b2.zero (i + 1 + t) (by omega) j (show j < i + 1 + t by omega)]; simp
      · show ∃ y, ent S' i j - (ent S i j - ent S i (i + 1 + t) / ent S (i + 1 + t) (i + 1 + t) * ent S (i + 1 + t) j) = d * y
        rw [r1 i j hjn, if_pos ⟨rfl, hj⟩]
        obtain ⟨y, hy⟩ := mod_diff (ent S i j - ent S i (i + 1 + t) / ent S (i + 1 + t) (i + 1 + t) * ent S (i + 1 + t) j) d
        exact ⟨y, by omega⟩
    have hu : Sp n (gtP (ent S) i n) fun j => ent S' i j - ent S i j := by
      refine .add (v := fun j => -(ent S i (i + 1 + t) / ent S (i + 1 + t) (i + 1 + t)) * ent S (i + 1 + t) j) (Sp.smul (.gen ⟨i + 1 + t, by omega, by omega, rfl⟩) _ fun _ _ => rfl) (hz.mono fun g ⟨k, h1, h2, h3⟩ => .gen ⟨k, by omega, h2, h3⟩) fun j hj => ?_
      show ent S' i j - ent S i j = -(ent S i (i + 1 + t) / ent S (i + 1 + t) (i + 1 + t)) * ent S (i + 1 + t) j + (ent S' i j - (ent S i j - ent S i (i + 1 + t) / ent S (i + 1 + t) (i + 1 + t) * ent S (i + 1 + t) j))
      grind
    obtain ⟨c1, c2⟩ := row_step b2 (show i < n by omega) hrow (fun j hj => (show ent S' i j = ent S i j + (ent S' i j - ent S i j) by omega)) hu
    refine ⟨hlb, c1, b3.iff c2, fun k hk hki j hj => by rw [hrow k hk hki j hj, b4 k hk hki j hj], fun g => (c2 g).trans (b5 g), fun k h1 h2 => ?_⟩
    rw [hrow k (by omega) (by omega) k (by omega), r1 i k (by omega), if_neg (by omega)]
    by_cases e : k = i + 1 + t
    · subst e
      rw [if_pos ⟨rfl, rfl⟩]
      exact ⟨hm1, hm2⟩
    · rw [if_neg (by omega)]
      exact b6 k h1 (by omega)
theorem redI_spec {n : Nat} {d : Int} {R : List (List Int)} (hd : 0 < d) (h : LB R n d) (hT : Tri (ent R) n) (hF : Full (ent R) n d) : ∀ t, t ≤ n →
    LB (redI n R d t) n d ∧ Tri (ent (redI n R d t)) n ∧ Full (ent (redI n R d t)) n d ∧ (∀ g, Sp n (rowsP (ent (redI n R d t)) n) g ↔ Sp n (rowsP (ent R) n) g) ∧ ∀ i k, n - t ≤ i → i < k → k < n → 0 ≤ ent (redI n R d t) i k ∧ ent (redI n R d t) i k < ent (redI n R d t) k k
  | 0, _ => ⟨h, hT, hF, fun _ => Iff.rfl, fun i k h1 h2 h3 => by omega⟩
  | t + 1, ht => by
    obtain ⟨a1, a2, a3, a4, a5⟩ := redI_spec hd h hT hF t (by omega)
    obtain ⟨b1, b2, b3, b4, b5, b6⟩ := redK_RK (i := n - 1 - t) hd a1 a2 a3 t (by omega)
    refine ⟨b1, b2, b3, fun g => (b5 g).trans (a4 g), fun i k h1 h2 h3 => ?_⟩
    show 0 ≤ ent (redK n (redI n R d t) (n - 1 - t) d t) i k ∧ ent (redK n (redI n R d t) (n - 1 - t) d t) i k < ent (redK n (redI n R d t) (n - 1 - t) d t) k k
    by_cases e : i = n - 1 - t
    · subst e
      exact b6 k h2 (by omega)
    · rw [b4 i (by omega) e k h3, b4 k h3 (by omega) k h3]
      exact a5 i k (by omega) h2 h3
def LG (n : Nat) (d : Int) (f : Nat → Nat → Int) (m : Nat) (g : Nat → Int) : Prop := (∃ j, j < n ∧ g = unitV d j) ∨ ∃ k, k < m ∧ g = f k
theorem Sp.mults {n : Nat} {d : Int} {S : (Nat → Int) → Prop} (h : ∀ j, j < n → Sp n S (unitV d j)) {z : Nat → Int} (hz : ∀ j, j < n → ∃ y, z j = d * y) : Sp n S z := by
  have hex : ∃ y : Nat → Int, ∀ j, j < n → z j = d * y j := by
    refine ⟨fun j => if h : j < n then (hz j h).choose else 0, fun j h1 => ?_⟩
    simp only [h1, dite_true]
    exact (hz j h1).choose_spec
  obtain ⟨y, hy⟩ := hex
  refine Sp.sum (f := unitV d) (c := y) (m := n) h fun j hj => ?_
  rw [psumF_one (k := j) hj fun t ht hne => by
    show y t * unitV d t j = 0
    rw [show unitV d t j = 0 from if_neg (Ne.symm hne), Int.mul_zero]]
  show z j = y j * (if j = j then d else 0)
  rw [if_pos rfl, hy j hj, Int.mul_comm]
theorem LG.cong {n : Nat} {d : Int} {f f' : Nat → Nat → Int} {m : Nat} (h : ∀ k, k < m → ∀ j, j < n → ∃ y, f' k j = f k j + d * y) {g : Nat → Int} (hg : Sp n (LG n d f m) g) : Sp n (LG n d f' m) g := by
  refine hg.mono fun g hg => ?_
  rcases hg with h1 | ⟨k, hk, rfl⟩
  · exact .gen (.inl h1)
  · refine Sp.sub (v := f' k) (w := fun j => f' k j - f k j) (.gen (.inr ⟨k, hk, rfl⟩)) (Sp.mults (d := d) (fun j hj => .gen (.inl ⟨j, hj, rfl⟩)) fun j hj => ?_) fun j hj => by omega
    obtain ⟨y, hy⟩ := h k hk j hj
    exact ⟨y, by omega⟩
theorem LG.iff {n : Nat} {d : Int} {f f' : Nat → Nat → Int} {m : Nat} (h : ∀ k, k < m → ∀ j, j < n → ∃ y, f' k j = f k j + d * y) (g : Nat → Int) : Sp n (LG n d f m) g ↔ Sp n (LG n d f' m) g :=
  ⟨LG.cong h, LG.cong fun k hk j hj => by
    obtain ⟨y, hy⟩ := h k hk j hj
    exact ⟨-y, by rw [hy, Int.mul_neg]; omega⟩⟩
theorem mult_ent {n : Nat} {d : Int} {i j : Nat} (hi : i < n) (hj : j < n) : ent (multF n n d) i j = unitV d i j := by
  have hrow : (multF n n d).getD i [] = (List.replicate n 0).set i d := by
    simp [multF, List.getD_eq_getElem?_getD, hi]
  unfold ent rw_ unitV
  rw [hrow, List.getD_eq_getElem?_getD, List.getElem?_set]
  by_cases e : i = j
  · rw [if_pos e, if_pos e.symm, if_pos (by simpa using hi)]; rfl
  · rw [if_neg e, if_neg (Ne.symm e)]; simp [hj]
structure LL (n : Nat) (d : Int) (f : Nat → Nat → Int) (m : Nat) (R : List (List Int)) : Prop where
  lb : LB R n d
  tri : Tri (ent R) n
  full : Full (ent R) n d
  sp : ∀ g, Sp n (rowsP (ent R) n) g ↔ Sp n (LG n d f m) g
theorem LL.mult {n : Nat} {d : Int} {f : Nat → Nat → Int} (hd : 0 < d) : LL n d f 0 (multF n n d) := by
  refine ⟨LB.mult hd, Tri.mk (fun i hi => ?_) fun i j hi hj => ?_, fun j hj => ?_, fun g => ⟨fun hg => hg.mono ?_, fun hg => hg.mono ?_⟩⟩
  · rw [mult_ent hi hi]; show 0 < if i = i then d else 0; rw [if_pos rfl]; exact hd
  · rw [mult_ent hi (by omega)]; exact if_neg (by omega)
  · exact Sp.of_eq (Sp.row hj) fun t ht => (mult_ent hj ht).symm
  · rintro g ⟨k, hk, rfl⟩
    exact Sp.of_eq (.gen (.inl ⟨k, hk, rfl⟩)) fun t ht => mult_ent hk ht
  · rintro g (⟨k, hk, rfl⟩ | ⟨k, hk, rfl⟩)
    · exact Sp.of_eq (Sp.row hk) fun t ht => (mult_ent hk ht).symm
    · omega
theorem LG.next {n : Nat} {d : Int} {f : Nat → Nat → Int} {m : Nat} {e : Nat → Nat → Int} {w : Nat → Int} (hw : ∀ j, j < n → w j = f m j) (h : ∀ g, Sp n (rowsP e n) g ↔ Sp n (LG n d f m) g) (g : Nat → Int) : Sp n (SV e n w) g ↔ Sp n (LG n d f (m + 1)) g := by
  constructor
  · refine fun hg => hg.mono ?_
    rintro g (hg | rfl)
    · exact ((h g).1 (.gen hg)).mono fun g hg => .gen (by
        rcases hg with h1 | ⟨k, hk, h2⟩
        · exact .inl h1
        · exact .inr ⟨k, by omega, h2⟩)
    · exact Sp.of_eq (.gen (.inr ⟨m, by omega, rfl⟩)) hw
  · refine fun hg => hg.mono ?_
    have old : ∀ g, LG n d f m g → Sp n (SV e n w) g := fun g hg => ((h g).2 (.gen hg)).mono fun g hg => .gen (.inl hg)
    rintro g (h1 | ⟨k, hk, rfl⟩)
    · exact old _ (.inl h1)
    · by_cases e1 : k = m
      · subst e1
        exact Sp.of_eq (.gen (.inr rfl)) fun j hj => (hw j hj).symm
      · exact old _ (.inr ⟨k, by omega, rfl⟩)
theorem LL.add {n : Nat} {d : Int} {f : Nat → Nat → Int} {m : Nat} {R : List (List Int)} {v : List Int} (hd : 0 < d) (hd9 : d ≤ 1000000000) (h : LL n d f m R) (hv : VC v n) (hf : ∀ j, j < n → v.getD j 0 = f m j) : LL n d f (m + 1) (addI n R v d n).1 := by
  obtain ⟨a1, a2, a3⟩ := (CI_addI hd hd9 h.tri h.full h.lb hv (Nat.le_refl n)).done h.full
  exact ⟨(LB.addI hd hd9 h.lb hv (Nat.le_refl _)).1, a1, a2, fun g => (a3 g).trans (LG.next (w := mask 0 v) (fun j hj => hf j hj) h.sp g)⟩
theorem LL.ins {n : Nat} {d : Int} {f : Nat → Nat → Int} {m : Nat} {R : List (List Int)} {v : List Int} (hd : 0 < d) (h : LL n d f m R) (hv : VB v n d) (hf : ∀ j, j < n → v.getD j 0 = f m j) : LL n d f (m + 1) (insI n R v d n).1 := by
  obtain ⟨a1, a2, a3⟩ := (CI_insI hd h.tri h.full h.lb hv (Nat.le_refl n)).done h.full
  exact ⟨(LB.insI hd h.lb hv (Nat.le_refl _)).1, a1, a2, fun g => (a3 g).trans (LG.next (w := mask 0 v) (fun j hj => hf j hj) h.sp g)⟩
structure HL (n : Nat) (d : Int) (f : Nat → Nat → Int) (m : Nat) (R : List (List Int)) : Prop extends LL n d f m R where
  hf : HF n (ent R) n id
theorem LL.red {n : Nat} {d : Int} {f : Nat → Nat → Int} {m : Nat} {R : List (List Int)} (hd : 0 < d) (h : LL n d f m R) : HL n d f m (redI n R d n) := by
  obtain ⟨a1, a2, a3, a4, a5⟩ := redI_spec hd h.lb h.tri h.full n (Nat.le_refl _)
  exact ⟨⟨a1, a2, a3, fun g => (a4 g).trans (h.sp g)⟩, ⟨a2, fun i k hik hk => a5 i k (by omega) hik hk⟩⟩
theorem list2_ext {R R' : List (List Int)} {n : Nat} {d d' : Int} (h : LB R n d) (h' : LB R' n d') (he : ∀ i j, i < n → j < n → ent R i j = ent R' i j) : R = R' := by
  apply List.ext_getElem?
  intro i
  have l1 := h.len
  have l2 := h'.len
  by_cases hi : i < n
  · have r1 := h.row i hi
    have r2 := h'.row i hi
    rw [List.getElem?_eq_getElem (by omega), List.getElem?_eq_getElem (by omega)]
    congr 1
    have e1 : R[i] = R.getD i [] := by simp [List.getD_eq_getElem?_getD, show i < R.length by omega]
    have e2 : R'[i] = R'.getD i [] := by simp [List.getD_eq_getElem?_getD, show i < R'.length by omega]
    rw [e1, e2]
    exact getD_ext (by omega) fun j hj => he i j hi (by omega)
  · rw [List.getElem?_eq_none (by omega), List.getElem?_eq_none (by omega)]
theorem HL.eq {n : Nat} {d d' : Int} {f f' : Nat → Nat → Int} {m m' : Nat} {R R' : List (List Int)} (h : HL n d f m R) (h' : HL n d' f' m' R') (hs : ∀ g, Sp n (rowsP (ent R) n) g ↔ Sp n (rowsP (ent R') n) g) : R = R' :=
  list2_ext h.lb h'.lb fun i j hi hj => ((HF.unique h.hf h'.hf (fun i hi => (hs _).1 (Sp.row hi)) (fun i hi => (hs _).2 (Sp.row hi))).2 i hi).2 j hj
end Go.Proofs.Ytnilimjkibimcaa

