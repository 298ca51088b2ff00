import Derived.Test.YtnilimjkibimcaaPk
import Derived.Test.YtnilimjkibimcaaNk
set_option linter.unusedSimpArgs false
set_option linter.unusedVariables false

namespace Go.Proofs.Ytnilimjkibimcaa
open Go.Zz
theorem cut_mid {A B c x : List AV} {a j n : Nat} (hA : A.length = a) (h : Zz.cut c j n = some x) : Zz.cut (A ++ (c ++ B)) (a + j) n = some x := by
  unfold Zz.cut at h ⊢
  split at h
  · rename_i hle
    simp only [Option.some.injEq] at h
    subst h hA
    rw [if_pos (by simp; omega), List.drop_length_add_append, List.drop_append_of_le_length (by omega), List.take_append_of_le_length (by rw [List.length_drop]; omega)]
  · cases h
theorem flatR_split {R : List (List Int)} (h6 : ∀ r ∈ R, r.length = 6) {i : Nat} (hi : i < R.length) (r : List Int) : flatR (R.set i r) = flatR (R.take i) ++ (icells r ++ flatR (R.drop (i + 1))) ∧ (flatR (R.take i)).length = i * 6 := by
  refine ⟨?_, ?_⟩
  · rw [List.set_eq_take_append_cons_drop, if_pos hi]
    simp [flatR]
  · rw [flatR_len fun r hr => h6 r (List.mem_of_mem_take hr), List.length_take, Nat.min_eq_left (by omega)]
theorem row_mem {R : List (List Int)} {i : Nat} (hi : i < R.length) : R.getD i [] ∈ R := by
  rw [List.getD_eq_getElem?_getD, List.getElem?_eq_getElem hi]
  exact List.getElem_mem hi
theorem set_same {R : List (List Int)} {i : Nat} (hi : i < R.length) : R.set i (R.getD i []) = R := by
  rw [List.getD_eq_getElem?_getD, List.getElem?_eq_getElem hi]
  exact List.set_getElem_self hi
theorem flatR_cut {R : List (List Int)} (h6 : ∀ r ∈ R, r.length = 6) {i : Nat} (hi : i < R.length) : Zz.cut (flatR R) (i * 6) 6 = some (icells (R.getD i [])) := by
  obtain ⟨e1, e2⟩ := flatR_split h6 hi (R.getD i [])
  rw [set_same hi] at e1
  rw [e1]
  exact cut_mid (j := 0) e2 (icells_cut (h6 _ (row_mem hi)))
def swapR (R : List (List Int)) (i k : Nat) : List (List Int) := (R.set i (R.getD k [])).set k (R.getD i [])
def negC (R : List (List Int)) (k : Nat) : Nat → List (List Int)
  | 0 => R
  | t + 1 => setE (negC R k t) k t (-(ent (negC R k t) k t))
def mulC (R : List (List Int)) (i k : Nat) (f : Int) : Nat → List (List Int)
  | 0 => R
  | t + 1 => setE (mulC R i k f t) i t (ent (mulC R i k f t) i t + f * ent (mulC R i k f t) k t)
def changedR (R : List (List Int)) (i k : Nat) (f : Int) : List (List Int) := if i = k then negC (swapR R i k) k 6 else mulC (negC (swapR R i k) k 6) i k f 6
end Go.Proofs.Ytnilimjkibimcaa

