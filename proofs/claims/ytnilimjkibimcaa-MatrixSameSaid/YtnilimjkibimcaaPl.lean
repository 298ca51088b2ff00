import Derived.Test.YtnilimjkibimcaaPk
import Derived.Test.YtnilimjkibimcaaNk

set_option linter.unusedSimpArgs false
set_option linter.unusedVariables false
namespace Go.Proofs.Ytnilimjkibimcaa
open Go.Zz

/-! ### Rows in memory, one of them or one number of them stored -/
theorem over_mid {A B c c' xs : List AV} {a j : Nat} (hA : A.length = a) (h : Zz.over c j xs = some c') : Zz.over (A ++ (c ++ B)) (a + j) xs = some (A ++ (c' ++ B)) := by
  unfold Zz.over at h ⊢
  split at h
  · rename_i hle
    simp only [Option.some.injEq] at h
    subst h hA
    rw [if_pos (by simp; omega)]
    have e1 : (A ++ (c ++ B)).take (A.length + j) = A ++ c.take j := by
      rw [List.take_length_add_append, List.take_append_of_le_length (by omega)]
    have e2 : (A ++ (c ++ B)).drop (A.length + j + xs.length) = c.drop (j + xs.length) ++ B := by
      rw [Nat.add_assoc, List.drop_length_add_append, List.drop_append_of_le_length hle]
    rw [e1, e2]
    simp
  · cases h
theorem cut_mid {A B c x : List AV} {a j n : Nat} (hA : A.length = a) (h : Zz.cut c j n = some x) : Zz.cut (A ++ (c ++ B)) (a + j) n = some x := by
  unfold Zz.cut at h ⊢
  split at h
  · rename_i hle
    simp only [Option.some.injEq] at h
    subst h hA
    rw [if_pos (by simp; omega), List.drop_length_add_append, List.drop_append_of_le_length (by omega), List.take_append_of_le_length (by rw [List.length_drop]; omega)]
  · cases h
theorem get_mid {A B c : List AV} {x : AV} {a j : Nat} (hA : A.length = a) (h : c[j]? = some x) : (A ++ (c ++ B))[a + j]? = some x := by
  subst hA
  have hl := (List.getElem?_eq_some_iff.1 h).1
  rw [List.getElem?_append_right (by omega), Nat.add_sub_cancel_left, List.getElem?_append_left hl, h]
theorem flatR_split {R : List (List Int)} (h6 : ∀ r ∈ R, r.length = 6) {i : Nat} (hi : i < R.length) (r : List Int) : flatR (R.set i r) = flatR (R.take i) ++ (icells r ++ flatR (R.drop (i + 1))) ∧ (flatR (R.take i)).length = i * 6 := by
  refine ⟨?_, ?_⟩
  · rw [List.set_eq_take_append_cons_drop, if_pos hi]
    simp [flatR]
  · rw [flatR_len fun r hr => h6 r (List.mem_of_mem_take hr), List.length_take, Nat.min_eq_left (by omega)]
theorem row_mem {R : List (List Int)} {i : Nat} (hi : i < R.length) : R.getD i [] ∈ R := by
  rw [List.getD_eq_getElem?_getD, List.getElem?_eq_getElem hi]
  exact List.getElem_mem hi
theorem set_same {R : List (List Int)} {i : Nat} (hi : i < R.length) : R.set i (R.getD i []) = R := by
  rw [List.getD_eq_getElem?_getD, List.getElem?_eq_getElem hi]
  exact List.set_getElem_self hi
theorem flatR_cut {R : List (List Int)} (h6 : ∀ r ∈ R, r.length = 6) {i : Nat} (hi : i < R.length) : Zz.cut (flatR R) (i * 6) 6 = some (icells (R.getD i [])) := by
  obtain ⟨e1, e2⟩ := flatR_split h6 hi (R.getD i [])
  rw [set_same hi] at e1
  rw [e1]
  exact cut_mid (j := 0) e2 (icells_cut (h6 _ (row_mem hi)))
theorem over_all {c xs : List AV} (h : c.length = xs.length) : Zz.over c 0 xs = some xs := by
  unfold Zz.over
  rw [if_pos (by omega)]
  simp [← h]
theorem flatR_over {R : List (List Int)} (h6 : ∀ r ∈ R, r.length = 6) {i : Nat} (hi : i < R.length) {r : List Int} (hr : r.length = 6) : Zz.over (flatR R) (i * 6) (icells r) = some (flatR (R.set i r)) := by
  obtain ⟨e1, e2⟩ := flatR_split h6 hi (R.getD i [])
  rw [set_same hi] at e1
  rw [e1, (flatR_split h6 hi r).1]
  exact over_mid (j := 0) e2 (over_all (by rw [icells_len, icells_len, h6 _ (row_mem hi), hr]))
theorem flatR_at {R : List (List Int)} (h6 : ∀ r ∈ R, r.length = 6) {i j : Nat} (hi : i < R.length) (hj : j < 6) : (flatR R)[i * 6 + j]? = some (.int .i64 (ent R i j)) := by
  obtain ⟨e1, e2⟩ := flatR_split h6 hi (R.getD i [])
  rw [set_same hi] at e1
  rw [e1]
  exact get_mid e2 (icells_at (by rw [h6 _ (row_mem hi)]; exact hj))
theorem flatR_over1 {R : List (List Int)} (h6 : ∀ r ∈ R, r.length = 6) {i j : Nat} (hi : i < R.length) (hj : j < 6) (x : Int) : Zz.over (flatR R) (i * 6 + j) [.int .i64 x] = some (flatR (setE R i j x)) := by
  obtain ⟨e1, e2⟩ := flatR_split h6 hi (R.getD i [])
  rw [set_same hi] at e1
  unfold setE
  rw [(flatR_split h6 hi ((R.getD i []).set j x)).1]
  conv => lhs; rw [e1]
  exact over_mid e2 (icells_over (by rw [h6 _ (row_mem hi)]; exact hj) x)
theorem setE_six {R : List (List Int)} (h6 : ∀ r ∈ R, r.length = 6) {i j : Nat} {x : Int} (hi : i < R.length) : ∀ r ∈ setE R i j x, r.length = 6 := fun r hr => by
  rcases List.mem_or_eq_of_mem_set hr with h | rfl
  · exact h6 r h
  · rw [List.length_set]; exact h6 _ (row_mem hi)
theorem set_six {R : List (List Int)} (h6 : ∀ r ∈ R, r.length = 6) {i : Nat} {w : List Int} (hw : w.length = 6) : ∀ r ∈ R.set i w, r.length = 6 := fun r hr => by
  rcases List.mem_or_eq_of_mem_set hr with h | rfl
  · exact h6 r h
  · exact hw
theorem ent_set6 {R : List (List Int)} (h6 : ∀ r ∈ R, r.length = 6) {i j i' j' : Nat} {x : Int} (hi : i < R.length) (hj : j < 6) : ent (setE R i j x) i' j' = if i' = i ∧ j' = j then x else ent R i' j' := by
  unfold ent rw_ setE
  have h1 := h6 _ (row_mem hi)
  by_cases e : i' = i
  · subst e
    have e1 : (R.set i' ((R.getD i' []).set j x)).getD i' [] = (R.getD i' []).set j x := by simp [List.getD_eq_getElem?_getD, List.getElem?_set, hi]
    rw [e1, getD_set_if (by omega)]
    by_cases e2 : j' = j
    · rw [if_pos e2, if_pos ⟨rfl, e2⟩]
    · rw [if_neg e2, if_neg fun h => e2 h.2]
  · rw [if_neg (by rintro ⟨h, _⟩; exact e h)]
    congr 1
    rw [List.getD_eq_getElem?_getD, List.getElem?_set, if_neg (Ne.symm e), ← List.getD_eq_getElem?_getD]
theorem setE_len {R : List (List Int)} {i j : Nat} {x : Int} : (setE R i j x).length = R.length := List.length_set

/-! ### Rows changed -/
def swapR (R : List (List Int)) (i k : Nat) : List (List Int) := (R.set i (R.getD k [])).set k (R.getD i [])
def negC (R : List (List Int)) (k : Nat) : Nat → List (List Int)
  | 0 => R
  | t + 1 => setE (negC R k t) k t (-(ent (negC R k t) k t))
def mulC (R : List (List Int)) (i k : Nat) (f : Int) : Nat → List (List Int)
  | 0 => R
  | t + 1 => setE (mulC R i k f t) i t (ent (mulC R i k f t) i t + f * ent (mulC R i k f t) k t)
def changedR (R : List (List Int)) (i k : Nat) (f : Int) : List (List Int) := if i = k then negC (swapR R i k) k 6 else mulC (negC (swapR R i k) k 6) i k f 6
theorem swap_len {R : List (List Int)} {i k : Nat} : (swapR R i k).length = R.length := by simp [swapR]
theorem swap_six {R : List (List Int)} (h6 : ∀ r ∈ R, r.length = 6) {i k : Nat} (hi : i < R.length) (hk : k < R.length) : ∀ r ∈ swapR R i k, r.length = 6 := set_six (set_six h6 (h6 _ (row_mem hk))) (h6 _ (row_mem hi))
theorem getD_set2 {R : List (List Int)} {i k : Nat} {w : List Int} (hi : i < R.length) : (R.set i w).getD k [] = if k = i then w else R.getD k [] := by
  by_cases e : k = i
  · subst e
    simp [List.getD_eq_getElem?_getD, List.getElem?_set, hi]
  · rw [if_neg e, List.getD_eq_getElem?_getD, List.getElem?_set, if_neg (Ne.symm e), ← List.getD_eq_getElem?_getD]
theorem swap_row {R : List (List Int)} {i k : Nat} (hi : i < R.length) (hk : k < R.length) (t : Nat) : (swapR R i k).getD t [] = if t = k then R.getD i [] else if t = i then R.getD k [] else R.getD t [] := by
  unfold swapR
  rw [getD_set2 (by simpa using hk), getD_set2 hi]
theorem negC_all {R : List (List Int)} (h6 : ∀ r ∈ R, r.length = 6) {k : Nat} (hk : k < R.length) : ∀ t, t ≤ 6 → (negC R k t).length = R.length ∧ (∀ r ∈ negC R k t, r.length = 6) ∧ ∀ i j, ent (negC R k t) i j = if i = k ∧ j < t then -ent R k j else ent R i j
  | 0, _ => ⟨rfl, h6, fun i j => by rw [if_neg (by omega)]; rfl⟩
  | t + 1, ht => by
    obtain ⟨a1, a2, a3⟩ := negC_all h6 hk t (by omega)
    refine ⟨setE_len.trans a1, setE_six a2 (by omega), fun i j => ?_⟩
    show ent (setE (negC R k t) k t (-(ent (negC R k t) k t))) i j = _
    rw [ent_set6 a2 (by omega) (by omega), a3, a3]
    by_cases hc : i = k ∧ j = t
    · obtain ⟨rfl, rfl⟩ := hc
      rw [if_pos ⟨rfl, rfl⟩, if_neg (by omega), if_pos (by omega)]
    · rw [if_neg hc]
      by_cases hc2 : i = k ∧ j < t
      · rw [if_pos hc2, if_pos (by omega)]
      · rw [if_neg hc2, if_neg (by omega)]
theorem mulC_all {R : List (List Int)} (h6 : ∀ r ∈ R, r.length = 6) {i k : Nat} {f : Int} (hi : i < R.length) (hik : i ≠ k) : ∀ t, t ≤ 6 → (mulC R i k f t).length = R.length ∧ (∀ r ∈ mulC R i k f t, r.length = 6) ∧ ∀ r j, ent (mulC R i k f t) r j = if r = i ∧ j < t then ent R i j + f * ent R k j else ent R r j
  | 0, _ => ⟨rfl, h6, fun i j => by rw [if_neg (by omega)]; rfl⟩
  | t + 1, ht => by
    obtain ⟨a1, a2, a3⟩ := mulC_all h6 hi hik (f := f) t (by omega)
    refine ⟨setE_len.trans a1, setE_six a2 (by omega), fun r j => ?_⟩
    show ent (setE (mulC R i k f t) i t (ent (mulC R i k f t) i t + f * ent (mulC R i k f t) k t)) r j = _
    rw [ent_set6 a2 (by omega) (by omega), a3, a3, a3]
    by_cases hc : r = i ∧ j = t
    · obtain ⟨rfl, rfl⟩ := hc
      rw [if_pos ⟨rfl, rfl⟩, if_neg (by omega), if_neg (by omega), if_pos (by omega)]
    · rw [if_neg hc]
      by_cases hc2 : r = i ∧ j < t
      · rw [if_pos hc2, if_pos (by omega)]
      · rw [if_neg hc2, if_neg (by omega)]
end Go.Proofs.Ytnilimjkibimcaa

