import Derived.Test.YtnilimjkibimcaaPc
set_option linter.unusedSimpArgs false
set_option linter.unusedVariables false

namespace Go.Proofs.Ytnilimjkibimcaa
open Go.Zz
def unitV (d : Int) (j : Nat) : Nat → Int := fun t => if t = j then d else 0
def gtP (e : Nat → Nat → Int) (i n : Nat) (g : Nat → Int) : Prop := ∃ k, i < k ∧ k < n ∧ g = e k
def SV (e : Nat → Nat → Int) (n : Nat) (w : Nat → Int) (g : Nat → Int) : Prop := rowsP e n g ∨ g = w
def Tri (e : Nat → Nat → Int) (n : Nat) : Prop := TF n e n id
theorem Tri.mk {e : Nat → Nat → Int} {n : Nat} (h1 : ∀ i, i < n → 0 < e i i) (h2 : ∀ i j, i < n → j < i → e i j = 0) : Tri e n := ⟨fun i hi => hi, fun i k h _ => h, h1, fun i hi j hj => h2 i j hi hj⟩
def Full (e : Nat → Nat → Int) (n : Nat) (d : Int) : Prop := ∀ j, j < n → Sp n (rowsP e n) (unitV d j)
theorem Tri.gt_of {e : Nat → Nat → Int} {n i : Nat} (hT : Tri e n) {v : Nat → Int} (hv : Sp n (rowsP e n) v) (h0 : ∀ j, j ≤ i → j < n → v j = 0) : Sp n (gtP e i n) v := by
  obtain ⟨c, hc⟩ := hv.coef
  have hz := hT.coef0 hc (t := i + 1) fun k hk hkn => h0 k (by omega) hkn
  refine Sp.sum (f := fun k => if i < k then e k else fun _ => 0) (c := c) (m := n) (fun k hk => ?_) fun j hj => ?_
  · split
    · rename_i h
      exact .gen ⟨k, h, hk, rfl⟩
    · exact .zero fun _ _ => rfl
  · rw [hc j hj]
    refine psumF_congr fun k hk => ?_
    by_cases h : i < k
    · rw [if_pos h]
    · rw [if_neg h, hz k (by omega) hk]
      simp
theorem Full.gt {e : Nat → Nat → Int} {n i : Nat} {d : Int} (hT : Tri e n) (hF : Full e n d) {z : Nat → Int} (h0 : ∀ j, j ≤ i → j < n → z j = 0) (hz : ∀ j, i < j → j < n → ∃ y, z j = d * y) : Sp n (gtP e i n) z := by
  have hex : ∃ y : Nat → Int, ∀ j, i < j → j < n → z j = d * y j := by
    refine ⟨fun j => if h : i < j ∧ j < n then (hz j h.1 h.2).choose else 0, fun j h1 h2 => ?_⟩
    simp only [h1, h2, and_self, dite_true]
    exact (hz j h1 h2).choose_spec
  obtain ⟨y, hy⟩ := hex
  refine Sp.sum (f := fun k => if i < k then unitV d k else fun _ => 0) (c := y) (m := n) (fun k hk => ?_) fun j hj => ?_
  · split
    · rename_i h
      exact hT.gt_of (hF k hk) fun j h1 h2 => if_neg (by omega)
    · exact .zero fun _ _ => rfl
  · by_cases h : i < j
    · rw [psumF_one (k := j) hj fun t ht hne => by
        show y t * (if i < t then unitV d t else fun _ => 0) j = 0
        split
        · have : unitV d t j = 0 := if_neg (Ne.symm hne)
          rw [this, Int.mul_zero]
        · exact Int.mul_zero _]
      show z j = y j * (if i < j then unitV d j else fun _ => 0) j
      rw [if_pos h, hy j h hj]
      show _ = y j * (if j = j then d else 0)
      rw [if_pos rfl, Int.mul_comm]
    · rw [h0 j (by omega) hj]
      symm
      have : psumF (fun t => y t * (if i < t then unitV d t else fun _ => 0) j) n = psumF (fun _ => 0) n := by
        refine psumF_congr fun t ht => ?_
        split
        · have : unitV d t j = 0 := if_neg (by omega)
          rw [this, Int.mul_zero]
        · exact Int.mul_zero _
      rw [this, psumF_zero]
theorem gt_SV {e : Nat → Nat → Int} {n i : Nat} {w v : Nat → Int} (h : Sp n (gtP e i n) v) : Sp n (SV e n w) v := h.mono fun g ⟨k, _, hk, he⟩ => .gen (.inl ⟨k, hk, he⟩)
theorem gt_rows {e : Nat → Nat → Int} {n i : Nat} {v : Nat → Int} (h : Sp n (gtP e i n) v) : Sp n (rowsP e n) v := h.mono fun g ⟨k, _, hk, he⟩ => .gen ⟨k, hk, he⟩
theorem gt_same {e e' : Nat → Nat → Int} {n i : Nat} (hs : ∀ k, i < k → k < n → ∀ j, j < n → e' k j = e k j) {v : Nat → Int} (h : Sp n (gtP e i n) v) : Sp n (gtP e' i n) v := h.mono fun g ⟨k, h1, h2, he⟩ => by
  subst he
  exact Sp.of_eq (.gen ⟨k, h1, h2, rfl⟩) fun j hj => (hs k h1 h2 j hj).symm
theorem two_half {e e' : Nat → Nat → Int} {n i : Nat} {w w' z z' : Nat → Int} {A B C E : Int} (hi : i < n) (hs : ∀ k, k < n → k ≠ i → ∀ j, j < n → e' k j = e k j) (hh : ∀ j, j < n → e' i j = A * e i j + B * w j + z j) (hw : ∀ j, j < n → w' j = C * e i j + E * w j + z' j) (gz : Sp n (gtP e i n) z) (gz' : Sp n (gtP e i n) z') {g : Nat → Int} (hg : Sp n (SV e' n w') g) : Sp n (SV e n w) g := by
  have hr : Sp n (SV e n w) (e i) := .gen (.inl ⟨i, hi, rfl⟩)
  have hv : Sp n (SV e n w) w := .gen (.inr rfl)
  refine hg.mono fun g hg => ?_
  rcases hg with ⟨k, hk, rfl⟩ | rfl
  · by_cases hki : k = i
    · subst hki
      exact .add (.add (hr.smul A (u := fun j => A * e k j) fun _ _ => rfl) (hv.smul B (u := fun j => B * w j) fun _ _ => rfl) (u := fun j => A * e k j + B * w j) fun _ _ => rfl) (gt_SV gz) hh
    · exact Sp.of_eq (.gen (.inl ⟨k, hk, rfl⟩)) fun j hj => hs k hk hki j hj
  · exact .add (.add (hr.smul C (u := fun j => C * e i j) fun _ _ => rfl) (hv.smul E (u := fun j => E * w j) fun _ _ => rfl) (u := fun j => C * e i j + E * w j) fun _ _ => rfl) (gt_SV gz') hw
theorem two_step {e e' : Nat → Nat → Int} {n i : Nat} {w w' z z' : Nat → Int} {A B C E s : Int} (hi : i < n) (hs : ∀ k, k < n → k ≠ i → ∀ j, j < n → e' k j = e k j) (hh : ∀ j, j < n → e' i j = A * e i j + B * w j + z j) (hw : ∀ j, j < n → w' j = C * e i j + E * w j + z' j) (gz : Sp n (gtP e i n) z) (gz' : Sp n (gtP e i n) z') (hdet : s * (A * E - B * C) = 1) (g : Nat → Int) : Sp n (SV e' n w') g ↔ Sp n (SV e n w) g := by
  refine ⟨two_half hi hs hh hw gz gz', ?_⟩
  have q : ∀ {z : Nat → Int}, Sp n (gtP e i n) z → Sp n (gtP e' i n) z := fun h => gt_same (fun k h1 h2 j hj => hs k h2 (by omega) j hj) h
  refine two_half (e := e') (e' := e) (w := w') (w' := w) (z := fun j => -(s * (E * z j - B * z' j))) (z' := fun j => -(s * (A * z' j - C * z j))) (A := s * E) (B := -(s * B)) (C := -(s * C)) (E := s * A) hi (fun k hk hki j hj => (hs k hk hki j hj).symm) (fun j hj => ?_) (fun j hj => ?_) ?_ ?_
  · rw [hh j hj, hw j hj]
    grind
  · rw [hh j hj, hw j hj]
    grind
  · exact .neg ((Sp.sub ((q gz).smul E (u := fun j => E * z j) fun _ _ => rfl) ((q gz').smul B (u := fun j => B * z' j) fun _ _ => rfl) (u := fun j => E * z j - B * z' j) fun _ _ => rfl).smul s (u := fun j => s * (E * z j - B * z' j)) fun _ _ => rfl) fun _ _ => rfl
  · exact .neg ((Sp.sub ((q gz').smul A (u := fun j => A * z' j) fun _ _ => rfl) ((q gz).smul C (u := fun j => C * z j) fun _ _ => rfl) (u := fun j => A * z' j - C * z j) fun _ _ => rfl).smul s (u := fun j => s * (A * z' j - C * z j)) fun _ _ => rfl) fun _ _ => rfl
theorem getD_set_if {v : List Int} {j k : Nat} {x : Int} (h : j < v.length) : (v.set j x).getD k 0 = if k = j then x else v.getD k 0 := by
  by_cases e : k = j
  · subst e; rw [if_pos rfl, getD_set_self h]
  · rw [if_neg e, getD_set_ne (Ne.symm e)]
theorem addJ_ent {n i : Nat} {q d : Int} (hd : 0 < d) (hd9 : d ≤ 1000000000) {R : List (List Int)} {v : List Int} (h : LB R n d) (hv : VC v n) : ∀ t, i + 1 + t ≤ n →
    (∀ k j, ent (addJ R v i q d t).1 k j = if k = i ∧ i < j ∧ j < i + 1 + t then v.getD j 0 % d else ent R k j) ∧ ∀ j, (addJ R v i q d t).2.getD j 0 = if i < j ∧ j < i + 1 + t then (ent R i j - q * (v.getD j 0 % d)) % d else v.getD j 0
  | 0, _ => ⟨fun k j => by rw [if_neg (by omega)]; rfl, fun j => by rw [if_neg (by omega)]; rfl⟩
  | t + 1, ht => by
    obtain ⟨i1, i2⟩ := addJ_ent (i := i) (q := q) hd hd9 h hv t (by omega)
    obtain ⟨b1, b2, _⟩ := LB.addJ (i := i) (q := q) hd hd9 (t := t) h hv (by omega)
    have e1 := i1 i (i + 1 + t)
    rw [if_neg (by omega)] at e1
    have e2 := i2 (i + 1 + t)
    rw [if_neg (by omega)] at e2
    refine ⟨fun k j => ?_, fun j => ?_⟩
    · show ent (setE (addJ R v i q d t).1 i (i + 1 + t) _) k j = _
      rw [ent_setE b1.len b1.row (by omega) (by omega), e2, i1]
      by_cases hc : k = i ∧ j = i + 1 + t
      · rw [if_pos hc, if_pos (by omega)]
        obtain ⟨_, rfl⟩ := hc
        rfl
      · rw [if_neg hc]
        by_cases hc2 : k = i ∧ i < j ∧ j < i + 1 + t
        · rw [if_pos hc2, if_pos (by omega)]
        · rw [if_neg hc2, if_neg (by omega)]
    · show ((addJ R v i q d t).2.set (i + 1 + t) _).getD j 0 = _
      rw [getD_set_if (by rw [b2.1]; omega), e1, e2, i2]
      by_cases hc : j = i + 1 + t
      · rw [if_pos hc, if_pos (by omega)]
        subst hc
        rfl
      · rw [if_neg hc]
        by_cases hc2 : i < j ∧ j < i + 1 + t
        · rw [if_pos hc2, if_pos (by omega)]
        · rw [if_neg hc2, if_neg (by omega)]
theorem insJ_ent {n i : Nat} {X Y a b d : Int} (hd : 0 < d) {R : List (List Int)} {v : List Int} (h : LB R n d) (hv : VB v n d) : ∀ t, i + 1 + t ≤ n →
    (∀ k j, ent (insJ R v i X Y a b d t).1 k j = if k = i ∧ i < j ∧ j < i + 1 + t then (X * ent R i j + Y * v.getD j 0) % d else ent R k j) ∧ ∀ j, (insJ R v i X Y a b d t).2.getD j 0 = if i < j ∧ j < i + 1 + t then (a * v.getD j 0 - b * ent R i j) % d else v.getD j 0
  | 0, _ => ⟨fun k j => by rw [if_neg (by omega)]; rfl, fun j => by rw [if_neg (by omega)]; rfl⟩
  | t + 1, ht => by
    obtain ⟨i1, i2⟩ := insJ_ent (i := i) (X := X) (Y := Y) (a := a) (b := b) hd h hv t (by omega)
    obtain ⟨b1, b2⟩ := LB.insJ (i := i) (X := X) (Y := Y) (a := a) (b := b) hd (t := t) h hv (by omega)
    have e1 := i1 i (i + 1 + t)
    rw [if_neg (by omega)] at e1
    have e2 := i2 (i + 1 + t)
    rw [if_neg (by omega)] at e2
    refine ⟨fun k j => ?_, fun j => ?_⟩
    · show ent (setE (insJ R v i X Y a b d t).1 i (i + 1 + t) _) k j = _
      rw [ent_setE b1.len b1.row (by omega) (by omega), e1, e2, i1]
      by_cases hc : k = i ∧ j = i + 1 + t
      · rw [if_pos hc, if_pos (by omega)]
        obtain ⟨_, rfl⟩ := hc
        rfl
      · rw [if_neg hc]
        by_cases hc2 : k = i ∧ i < j ∧ j < i + 1 + t
        · rw [if_pos hc2, if_pos (by omega)]
        · rw [if_neg hc2, if_neg (by omega)]
    · show ((insJ R v i X Y a b d t).2.set (i + 1 + t) _).getD j 0 = _
      rw [getD_set_if (by rw [b2.1]; omega), e1, e2, i2]
      by_cases hc : j = i + 1 + t
      · rw [if_pos hc, if_pos (by omega)]
        subst hc
        rfl
      · rw [if_neg hc]
        by_cases hc2 : i < j ∧ j < i + 1 + t
        · rw [if_pos hc2, if_pos (by omega)]
        · rw [if_neg hc2, if_neg (by omega)]
theorem redJ_ent {n i k : Nat} {q d : Int} (hd : 0 < d) (hik : i < k) {R : List (List Int)} (h : LB R n d) (hi : i < n) : ∀ t, k + 1 + t ≤ n →
    ∀ r j, ent (redJ R i k q d t) r j = if r = i ∧ k < j ∧ j < k + 1 + t then (ent R i j - q * ent R k j) % d else ent R r j
  | 0, _, r, j => by rw [if_neg (by omega)]; rfl
  | t + 1, ht, r, j => by
    have i1 := redJ_ent (q := q) hd hik h hi t (by omega)
    have b1 := LB.redJ (q := q) hd hik (t := t) h hi (by omega)
    have e1 := i1 i (k + 1 + t)
    rw [if_neg (by omega)] at e1
    have e2 := i1 k (k + 1 + t)
    rw [if_neg (by omega)] at e2
    show ent (setE (redJ R i k q d t) i (k + 1 + t) _) r j = _
    rw [ent_setE b1.len b1.row hi (by omega), e1, e2, i1]
    by_cases hc : r = i ∧ j = k + 1 + t
    · rw [if_pos hc, if_pos (by omega)]
      obtain ⟨_, rfl⟩ := hc
      rfl
    · rw [if_neg hc]
      by_cases hc2 : r = i ∧ k < j ∧ j < k + 1 + t
      · rw [if_pos hc2, if_pos (by omega)]
      · rw [if_neg hc2, if_neg (by omega)]
theorem mod_diff (x d : Int) : ∃ y, x % d = x + d * y := ⟨-(x / d), by
  have := Int.emod_add_mul_ediv x d
  rw [Int.mul_neg]
  omega⟩
end Go.Proofs.Ytnilimjkibimcaa

