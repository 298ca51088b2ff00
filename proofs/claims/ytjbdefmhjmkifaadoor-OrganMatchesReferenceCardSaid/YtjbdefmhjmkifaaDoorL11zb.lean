import Derived.Test.YtjbdefmhjmkifaaDoorL11z

/-
  What Need answers, against Steady.
-/
set_option linter.unusedVariables false
set_option maxRecDepth 10000
namespace Go.Proofs.YtjbdefmhjmkifaaDoor
open Go.Zz

theorem lackN_le {ps : List Pipe} {tol : Int} {ids : List Int} {w d : Int} {j : Nat} (hs : 0 < (pipeOf ps (ids.getD j 0)).sag) : ∀ i, j < i → lackN ps tol ids w d i ≤ Int.tdiv (max ((pipeOf ps (ids.getD j 0)).warm * w + tol * 10000) 0) (pipeOf ps (ids.getD j 0)).sag
  | 0, h => by omega
  | i + 1, h => by
    unfold lackN
    simp only
    by_cases e : j = i
    · subst e
      rw [if_pos hs]
      omega
    · have ih := lackN_le (tol := tol) (w := w) (d := d) hs i (by omega)
      split
      · omega
      · exact ih
theorem lackN_ge {ps : List Pipe} {tol : Int} {ids : List Int} {w d l : Int} (hd : l ≤ d) (hh : ∀ j, j < ids.length → pos ps (ids.getD j 0) < ps.length) (h : Stead ps tol ids l w) (h0 : 0 ≤ l) : ∀ i, i ≤ ids.length → l ≤ lackN ps tol ids w d i
  | 0, _ => hd
  | i + 1, hi => by
    have ih := lackN_ge hd hh h h0 i (by omega)
    have hw := (h i (by omega) (hh i (by omega))).1
    unfold lackN
    simp only
    unfold shiftOf at hw
    generalize pipeOf ps (ids.getD i 0) = p at hw
    split
    · rename_i hs
      have h1 : p.sag * l ≤ p.warm * w + tol * 10000 := by omega
      have h2 : 0 ≤ p.sag * l := Int.mul_nonneg (by omega) h0
      have h3 : max (p.warm * w + tol * 10000) 0 = p.warm * w + tol * 10000 := by omega
      rw [h3]
      have h4 : l ≤ Int.tdiv (p.warm * w + tol * 10000) p.sag := by
        rw [Int.tdiv_eq_ediv_of_nonneg (by omega)]
        exact (Int.le_ediv_iff_mul_le hs).2 (by rw [Int.mul_comm]; exact h1)
      omega
    · exact ih
theorem stead_lackN {ps : List Pipe} {sup tol : Int} {ids : List Int} {w d l : Int} (hv : VO ps sup tol) (hd : l ≤ d) (hh : ∀ j, j < ids.length → pos ps (ids.getD j 0) < ps.length) (h : Stead ps tol ids l w) (h0 : 0 ≤ l) : Stead ps tol ids (lackN ps tol ids w d ids.length) w := by
  have hg := lackN_ge hd hh h h0 ids.length (Nat.le_refl _)
  intro j hj hp
  have hw := h j hj hp
  have hat := hv.at (ids.getD j 0)
  have hle := fun hs => lackN_le (ps := ps) (tol := tol) (ids := ids) (w := w) (d := d) (j := j) hs ids.length hj
  unfold shiftOf at hw ⊢
  generalize pipeOf ps (ids.getD j 0) = p at hw hat hle ⊢
  generalize lackN ps tol ids w d ids.length = N at hg hle ⊢
  have m1 := Int.mul_le_mul_of_nonneg_left hg hat.2.2.1
  by_cases hs : 0 < p.sag
  · have h1 := hle hs
    have h2 : 0 ≤ p.sag * l := Int.mul_nonneg (by omega) h0
    have h3 : max (p.warm * w + tol * 10000) 0 = p.warm * w + tol * 10000 := by omega
    rw [h3, Int.tdiv_eq_ediv_of_nonneg (by omega)] at h1
    have h4 := (Int.le_ediv_iff_mul_le hs).1 h1
    rw [Int.mul_comm] at h4
    omega
  · have h5 : p.sag = 0 := by omega
    rw [h5] at hw ⊢
    rw [Int.zero_mul] at hw ⊢
    exact hw
theorem VO.sup {ps : List Pipe} {sup tol n : Int} (hv : VO ps sup tol) (h0 : 0 ≤ n) (h1 : n ≤ 1000000) : VO ps n tol := ⟨hv.1, hv.2.1, ⟨h0, h1⟩, hv.2.2.2⟩
end Go.Proofs.YtjbdefmhjmkifaaDoor

