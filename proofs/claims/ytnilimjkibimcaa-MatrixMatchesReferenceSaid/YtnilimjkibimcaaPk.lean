import Derived.Test.YtnilimjkibimcaaPj
import Derived.Test.YtnilimjkibimcaaND
set_option linter.unusedSimpArgs false
set_option linter.unusedVariables false

namespace Go.Proofs.Ytnilimjkibimcaa
open Go.Zz
theorem minor_perm {e : Nat → Nat → Int} {is is' : List Nat} (h : is.Perm is') : ∃ s : Int, ∀ us, minorF e is us = s * minorF e is' us := by
  induction h with
  | nil => exact ⟨1, fun us => (Int.one_mul _).symm⟩
  | cons x _ ih =>
    obtain ⟨s, hs⟩ := ih
    refine ⟨s, fun us => ?_⟩
    rw [minor_cons, minor_cons, ← psumF_mul]
    refine psumF_congr fun p _ => ?_
    rw [hs]
    grind
  | swap x y l => exact ⟨-1, fun us => by rw [minor_swap]; omega⟩
  | trans _ _ h1 h2 =>
    obtain ⟨s, hs⟩ := h1
    obtain ⟨t, ht⟩ := h2
    exact ⟨s * t, fun us => by rw [hs, ht, Int.mul_assoc]⟩
theorem inc_of {n : Nat} : ∀ {s : Nat} {l : List Nat}, l.Pairwise (· < ·) → (∀ x ∈ l, s ≤ x ∧ x < n) → Inc n s l
  | s, [], _, _ => trivial
  | s, a :: t, h, hx => by
    rw [List.pairwise_cons] at h
    exact ⟨(hx a (by simp)).1, (hx a (by simp)).2, inc_of h.2 fun x hxt => ⟨h.1 x hxt, (hx x (by simp [hxt])).2⟩⟩
theorem sorted_of {n : Nat} {l : List Nat} (hn : l.Nodup) (h : ∀ x ∈ l, x < n) : ∃ l', l.Perm l' ∧ Inc n 0 l' := by
  refine ⟨(List.range n).filter fun x => decide (x ∈ l), (List.perm_ext_iff_of_nodup hn (List.Nodup.sublist List.filter_sublist List.nodup_range)).2 fun x => ?_, inc_of (List.Pairwise.sublist List.filter_sublist List.pairwise_lt_range) fun x hx => ⟨Nat.zero_le _, List.mem_range.1 (List.mem_filter.1 hx).1⟩⟩
  rw [List.mem_filter, List.mem_range]
  constructor
  · intro hx
    exact ⟨h x hx, by simpa using hx⟩
  · rintro ⟨_, hx⟩
    simpa using hx
def DvM (e : Nat → Nat → Int) (m k : Nat) (g : Int) : Prop := ∀ is js : List Nat, is.length = k → js.length = k → (∀ i ∈ is, i < m) → (∀ j ∈ js, j < 6) → g ∣ minorF e is js
theorem DvM.of_inc {e : Nat → Nat → Int} {m k : Nat} {g : Int} (h : ∀ is js : List Nat, is.length = k → js.length = k → Inc m 0 is → Inc 6 0 js → g ∣ minorF e is js) : DvM e m k g := by
  intro is js h1 h2 h3 h4
  by_cases h0 : minorF e is js = 0
  · rw [h0]; exact Int.dvd_zero _
  · have hn1 : is.Nodup := minor_nodup h0
    have hn2 : js.Nodup := by
      apply Decidable.byContradiction
      intro hn
      exact h0 (minor_cdup (by omega) hn)
    obtain ⟨is', p1, q1⟩ := sorted_of hn1 h3
    obtain ⟨js', p2, q2⟩ := sorted_of hn2 h4
    obtain ⟨s, hs⟩ := minor_perm (e := e) p1
    obtain ⟨t, ht⟩ := minor_perm (e := fun j i => e i j) p2
    rw [hs, minor_tr e js is' (by have := p1.length_eq; omega), ht, ← minor_tr e js' is' (by have := p1.length_eq; have := p2.length_eq; omega)]
    exact Int.dvd_mul_of_dvd_right (Int.dvd_mul_of_dvd_right (h is' js' (by have := p1.length_eq; omega) (by have := p2.length_eq; omega) q1 q2))
theorem foldl_dvd {α : Type} {f : Nat → α → Nat} {P : α → Prop} {g : Nat} (hf : ∀ a x, g ∣ f a x ↔ g ∣ a ∧ P x) : ∀ (l : List α) (a : Nat), g ∣ l.foldl f a ↔ g ∣ a ∧ ∀ x ∈ l, P x
  | [], a => by simp
  | x :: l, a => by
    rw [List.foldl_cons, foldl_dvd hf l, hf]
    constructor
    · rintro ⟨⟨h1, h2⟩, h3⟩
      refine ⟨h1, fun y hy => ?_⟩
      rcases List.mem_cons.1 hy with rfl | hy
      · exact h2
      · exact h3 y hy
    · rintro ⟨h1, h2⟩
      exact ⟨⟨h1, h2 x (by simp)⟩, fun y hy => h2 y (by simp [hy])⟩
theorem abs_dvd {g : Nat} {x : Int} : g ∣ (absI x).toNat ↔ (g : Int) ∣ x := by
  have h0 := absI_nn x
  have e : ((absI x).toNat : Int) = absI x := Int.toNat_of_nonneg h0
  rw [← Int.natCast_dvd_natCast, e]
  unfold absI
  split
  · exact Int.dvd_neg
  · exact Iff.rfl
theorem gRow_dvd {rows : List (List Int)} {k g : Nat} (a : Nat) (is : List Nat) : g ∣ gRow rows k a is ↔ g ∣ a ∧ ∀ js ∈ combos 6 k, (g : Int) ∣ minorF (ent rows) is js :=
  foldl_dvd (P := fun js => (g : Int) ∣ minorF (ent rows) is js) (fun a js => by
    show g ∣ Nat.gcd a (absI (minorF (ent rows) is js)).toNat ↔ _
    rw [Nat.dvd_gcd_iff, abs_dvd]) _ _
theorem divK_dvd {rows : List (List Int)} {k g : Nat} : g ∣ divK rows k ↔ ∀ is ∈ combos rows.length k, ∀ js ∈ combos 6 k, (g : Int) ∣ minorF (ent rows) is js := by
  unfold divK
  rw [foldl_dvd (P := fun is => ∀ js ∈ combos 6 k, (g : Int) ∣ minorF (ent rows) is js) (fun a is => gRow_dvd a is)]
  simp
theorem div_spec {rows : List (List Int)} {k g : Nat} (hm : rows.length ≤ 8) (hk : k ≤ 6) (hkm : k ≤ rows.length) : g ∣ divK rows k ↔ DvM (ent rows) rows.length k g := by
  rw [divK_dvd]
  constructor
  · exact fun h => DvM.of_inc fun is js h1 h2 h3 h4 => h is (combos_mem hm hk hkm h3 h1) js (combos_mem (by decide) hk hk h4 h2)
  · intro h is hi js hj
    obtain ⟨a1, a2⟩ := combos_inc hkm hi
    obtain ⟨b1, b2⟩ := combos_inc hk hj
    exact h is js a2 b2 (fun i hi => (a1.lt i hi).2) fun j hj => (b1.lt j hj).2
def SameL (A B : List (List Int)) : Prop := ∀ g, RowL (ent A) A.length g ↔ RowL (ent B) B.length g
abbrev Six (rows : List (List Int)) : Prop := ∀ i, i < rows.length → (rw_ rows i).length = 6
end Go.Proofs.Ytnilimjkibimcaa

