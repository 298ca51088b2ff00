import Derived.Test.YtjbdefmhjmkifaaDoorL11z

/-
  What Need answers, against Steady.
-/
set_option linter.unusedVariables false
set_option maxRecDepth 10000
namespace Go.Proofs.YtjbdefmhjmkifaaDoor
open Go.Zz

theorem lackN_le {ps : List Pipe} {tol : Int} {ids : List Int} {w d : Int} {j : Nat} (hs : 0 < (pipeOf ps (ids.getD j 0)).sag) : ∀ i, j < i → lackN ps tol ids w d i ≤ Int.tdiv (max ((pipeOf ps (ids.getD j 0)).warm * w + tol * 10000) 0) (pipeOf ps (ids.getD j 0)).sag
  | 0, h => by omega
  | i + 1, h => by
    unfold lackN
    simp only
    by_cases e : j = i
    · subst e
      rw [if_pos hs]
      omega
    · have ih := lackN_le (tol := tol) (w := w) (d := d) hs i (by omega)
      split
      · omega
      · exact ih
theorem lackN_ge {ps : List Pipe} {tol : Int} {ids : List Int} {w d l : Int} (hd : l ≤ d) (hh : ∀ j, j < ids.length → pos ps (ids.getD j 0) < ps.length) (h : Stead ps tol ids l w) (h0 : 0 ≤ l) : ∀ i, i ≤ ids.length → l ≤ lackN ps tol ids w d i
  | 0, _ => hd
  | i + 1, hi => by
    have ih := lackN_ge hd hh h h0 i (by omega)
    have hw := (h i (by omega) (hh i (by omega))).1
    unfold lackN
    simp only
    unfold shiftOf at hw
    generalize pipeOf ps (ids.getD i 0) = p at hw
    split
    · rename_i hs
      have h1 : p.sag * l ≤ p.warm * w + tol * 10000 := by omega
      have h2 : 0 ≤ p.sag * l := Int.mul_nonneg (by omega) h0
      have h3 : max (p.warm * w + tol * 10000) 0 = p.warm * w + tol * 10000 := by omega
      rw [h3]
      have h4 : l ≤ Int.tdiv (p.warm * w + tol * 10000) p.sag := by
        rw [Int.tdiv_eq_ediv_of_nonneg (by omega)]
        exact (Int.le_ediv_iff_mul_le hs).2 (by rw [Int.mul_comm]; exact h1)
      omega
    · exact ih
theorem stead_lackN {ps : List Pipe} {sup tol : Int} {ids : List Int} {w d l : Int} (hv : VO ps sup tol) (hd : l ≤ d) (hh : ∀ j, j < ids.length → pos ps (ids.getD j 0) < ps.length) (h : Stead ps tol ids l w) (h0 : 0 ≤ l) : Stead ps tol ids (lackN ps tol ids w d ids.length) w := by
  have hg := lackN_ge hd hh h h0 ids.length (Nat.le_refl _)
  intro j hj hp
  have hw := h j hj hp
  have hat := hv.at (ids.getD j 0)
  have hle := fun hs => lackN_le (ps := ps) (tol := tol) (ids := ids) (w := w) (d := d) (j := j) hs ids.length hj
  unfold shiftOf at hw ⊢
  generalize pipeOf ps (ids.getD j 0) = p at hw hat hle ⊢
  generalize lackN ps tol ids w d ids.length = N at hg hle ⊢
  have m1 := Int.mul_le_mul_of_nonneg_left hg hat.2.2.1
  by_cases hs : 0 < p.sag
  · have h1 := hle hs
    have h2 : 0 ≤ p.sag * l := Int.mul_nonneg (by omega) h0
    have h3 : max (p.warm * w + tol * 10000) 0 = p.warm * w + tol * 10000 := by omega
    rw [h3, Int.tdiv_eq_ediv_of_nonneg (by omega)] at h1
    have h4 := (Int.le_ediv_iff_mul_le hs).1 h1
    rw [Int.mul_comm] at h4
    omega
  · have h5 : p.sag = 0 := by omega
    rw [h5] at hw ⊢
    rw [Int.zero_mul] at hw ⊢
    exact hw
theorem stead_less {ps : List Pipe} {sup tol : Int} {ids : List Int} {l N : Int} (hv : VO ps sup tol) (h : Stead ps tol ids N 0) (h0 : 0 ≤ l) (hl : l ≤ N) : Stead ps tol ids l 0 := by
  intro j hj hp
  have hw := h j hj hp
  have hat := hv.at (ids.getD j 0)
  have ht := hv.2.2.2
  unfold shiftOf at hw ⊢
  rw [Int.mul_zero] at hw ⊢
  have m1 := Int.mul_le_mul_of_nonneg_left hl hat.2.2.1
  have m2 := Int.mul_nonneg hat.2.2.1 h0
  omega
theorem VO.sup {ps : List Pipe} {sup tol n : Int} (hv : VO ps sup tol) (h0 : 0 ≤ n) (h1 : n ≤ 1000000) : VO ps n tol := ⟨hv.1, hv.2.1, ⟨h0, h1⟩, hv.2.2.2⟩
theorem supply_of {pv xa : AV} {ps : List Pipe} {sup tol w k : Int} {y : Nat} (hq : PpL pv ps) (hmax : ps.length < 9223372036854775807) (ha : IntS xa (pickL ps k (min ps.length 16))) (hy : y < 65536) :
    ((∀ m, borrowX E16 19 [.agg [pv, .int .i64 sup, .int .i64 tol], xa, .int .i64 w] m = some (.tuple [.int .i64 0, .int .i64 1], m)) ∧ ∃ b e, ∀ m, borrowX E15 20 [.agg [pv, .int .i64 (y : Int), .int .i64 tol], xa, .int .i64 w] m = some (.tuple [.bool b, .int .i64 e], m))
    ∨ (VO ps sup tol ∧ (∀ m, borrowX E16 19 [.agg [pv, .int .i64 sup, .int .i64 tol], xa, .int .i64 w] m = some (.tuple [.int .i64 0, .int .i64 21], m)) ∧ ∀ m, borrowX E15 20 [.agg [pv, .int .i64 (y : Int), .int .i64 tol], xa, .int .i64 w] m = some (.tuple [.bool false, .int .i64 0], m))
    ∨ (VO ps sup tol ∧ ∃ n b, 0 ≤ n ∧ n ≤ 1000000 ∧ ((y : Int) < n → b = false) ∧ (n ≤ y → w = 0 → b = true) ∧ (∀ m, borrowX E16 19 [.agg [pv, .int .i64 sup, .int .i64 tol], xa, .int .i64 w] m = some (.tuple [.int .i64 n, .int .i64 0], m)) ∧
        (∀ m, borrowX E15 20 [.agg [pv, .int .i64 (y : Int), .int .i64 tol], xa, .int .i64 w] m = some (.tuple [.bool b, .int .i64 0], m)) ∧ ∀ m, borrowX E15 20 [.agg [pv, .int .i64 n, .int .i64 tol], xa, .int .i64 w] m = some (.tuple [.bool true, .int .i64 0], m)) := by
  have hLl := pickL_len (ps := ps) (k := k) (min ps.length 16)
  have hLn : (pickL ps k (min ps.length 16)).length < 9223372036854775807 := by omega
  have c19 := fun m => s19 (sup := sup) (tol := tol) (warm := w) (m := m) hq hmax ha hLn (ha.byVal _)
  have c20 := fun s m => s20 (sup := s) (tol := tol) (warm := w) (m := m) hq hmax ha hLn (ha.byVal _)
  have hset : ∀ s, setE ps s tol (pickL ps k (min ps.length 16)) w = if VO ps s tol ∧ (-100 ≤ w ∧ w ≤ 100) then 0 else 1 := fun s => pick_setE
  have hhas : ∀ j, j < (pickL ps k (min ps.length 16)).length → pos ps ((pickL ps k (min ps.length 16)).getD j 0) < ps.length := pickL_has _ (by omega)
  generalize pickL ps k (min ps.length 16) = L at *
  by_cases hv : VO ps sup tol ∧ (-100 ≤ w ∧ w ≤ 100)
  · obtain ⟨hv, hw⟩ := hv
    have hy1 := hv.sup (n := (y : Int)) (by omega) (by omega)
    have e1 : setE ps sup tol L w = 0 := by rw [hset, if_pos ⟨hv, hw⟩]
    have e2 : setE ps (y : Int) tol L w = 0 := by rw [hset, if_pos ⟨hy1, hw⟩]
    have hD := demN_bnd hv L L.length (Nat.le_refl _)
    have eD : demN ps L L.length = dem ps L := rfl
    rw [eD] at hD
    have hN := lackN_bnd (ps := ps) (tol := tol) (ids := L) (w := w) hD.1 L.length
    have hly : 0 ≤ lacks ps (y : Int) L ∧ lacks ps (y : Int) L ≤ dem ps L ∧ lacks ps (y : Int) L = max 0 (dem ps L - y) := by unfold lacks; omega
    have c20y := c20 (y : Int)
    rw [e2] at c20y
    unfold needV at c19
    rw [e1, if_pos rfl] at c19
    by_cases hst : Stead ps tol L (lackN ps tol L w (dem ps L) L.length) w
    · rw [if_pos hst] at c19
      refine .inr (.inr ⟨hv, dem ps L - lackN ps tol L w (dem ps L) L.length, _, by omega, by omega, ?_, ?_, c19, c20y, ?_⟩)
      · intro hlt
        rw [decide_eq_false_iff_not]
        intro h
        have := lackN_ge hly.2.1 hhas h.2 hly.1 L.length (Nat.le_refl _)
        omega
      · intro hge hw0
        subst hw0
        rw [decide_eq_true_iff]
        exact ⟨rfl, stead_less hv hst hly.1 (by omega)⟩
      · have c := c20 (dem ps L - lackN ps tol L w (dem ps L) L.length)
        have e3 : setE ps (dem ps L - lackN ps tol L w (dem ps L) L.length) tol L w = 0 := by rw [hset, if_pos ⟨hv.sup (by omega) (by omega), hw⟩]
        have e4 : lacks ps (dem ps L - lackN ps tol L w (dem ps L) L.length) L = lackN ps tol L w (dem ps L) L.length := by unfold lacks; omega
        rw [e3, e4, decide_eq_true (show (0 : Int) = 0 ∧ _ from ⟨rfl, hst⟩)] at c
        exact c
    · rw [if_neg hst] at c19
      refine .inr (.inl ⟨hv, c19, ?_⟩)
      rw [decide_eq_false (show ¬ ((0 : Int) = 0 ∧ _) from fun h => hst (stead_lackN hv hly.2.1 hhas h.2 hly.1))] at c20y
      exact c20y
  · have e1 : setE ps sup tol L w = 1 := by rw [hset, if_neg hv]
    unfold needV at c19
    rw [e1, if_neg (show ¬ (1 : Int) = 0 by decide)] at c19
    exact .inl ⟨c19, _, _, c20 (y : Int)⟩
end Go.Proofs.YtjbdefmhjmkifaaDoor

